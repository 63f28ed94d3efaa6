/-
  WHAT THE FUNCTIONS ANSWER: the reference's tables.
-/
import Derived.Test.YtjlmeikcfdanmaaGreatDoorVk
import Derived.Test.YtjlmeikcfdanmaaGreatDoorSd
import Derived.Test.YtjlmeikcfdanmaaGreatDoorTc
namespace Go.Proofs.YtjlmeikcfdanmaaGreatDoor.DE.V
open Go BT

/-! Shifts and remainders of small numbers. -/
theorem pow60 {n : Nat} (h : n ≤ 60) : 2 ^ n ≤ 1152921504606846976 := by
  have := Nat.pow_le_pow_right (show 0 < 2 by omega) h
  simpa using this

theorem shl1 {n : Nat} (h : n ≤ 60) : binD .shl .num (.i .i64 1) (.i .i64 n) = some (.i .i64 ((2 ^ n : Nat) : Int)) := by
  have h2 := pow60 h
  have hm : min n 64 = n := by omega
  simp only [binD, shOp]
  rw [if_neg (by omega)]
  simp only [IntKind.bits, Int.toNat_natCast, hm, Int.one_mul]
  have e : (2 : Int) ^ n = ((2 ^ n : Nat) : Int) := by simp
  rw [e]
  generalize 2 ^ n = m at *
  rw [wrap64 ⟨by omega, by omega⟩]

theorem shrN {a v : Nat} (h : v ≤ 60) : binD .shr .num (.i .i64 a) (.i .i64 v) = some (.i .i64 ((a / 2 ^ v : Nat) : Int)) := by
  have hm : min v 64 = v := by omega
  simp only [binD, shOp]
  rw [if_neg (by omega)]
  simp only [IntKind.bits, Int.toNat_natCast, hm]
  have e : (2 : Int) ^ v = ((2 ^ v : Nat) : Int) := by simp
  rw [e, ← Int.ofNat_fdiv]

theorem remN {a b : Nat} (h : 0 < b) : binD .rem .num (.i .i64 a) (.i .i64 b) = some (.i .i64 ((a % b : Nat) : Int)) := by
  simp only [binD, intOp, if_true]
  rw [if_neg (by omega), Int.ofNat_tmod]

/-! Lists of truth values. -/
def eBools (nl : Bool) (l : List Bool) : D := .sl 1 nl (l.map fun b => [.b b]) .ro
@[simp] theorem noRef_bools (nl : Bool) (l : List Bool) : noRef (eBools nl l) = true := by
  simp only [eBools, noRef, Bool.true_and]
  exact noRefLL_map (fun b : Bool => [D.b b]) (fun _ => rfl) l
@[simp] theorem strip_bools (nl : Bool) (l : List Bool) : strip (eBools nl l) = eBools nl l := (rfl)
@[simp] theorem stripT_bools (nl : Bool) (l : List Bool) : stripT (eBools nl l) = eBools nl l := (rfl)
@[simp] theorem len_bools (nl : Bool) (l : List Bool) : lenD false (eBools nl l) = some (.i .i64 l.length) := by simp [eBools, lenD]
theorem ia_bools {nl : Bool} {l : List Bool} {k : Nat} {b : Bool} (h : l[k]? = some b) : iaD 1 (eBools nl l) (.i .i64 k) = some (.el [.b b] 0) := by simp [eBools, iaD, h]

/-- A slice that may be appended to, or the empty literal. -/
def LivC (S : Store) (nl : Bool) (n : Nat) (o : Own) : Prop := Liv S nl n o ∨ (nl = false ∧ n = 0 ∧ o = .cap0)

theorem app_livC {k : Nat} {nl n' : Bool} {xs ys : List (List D)} {o o' : Own} {S : Store} (h : LivC S nl xs.length o) (hl : xs.length + ys.length ≤ maxLenD) (hy : ys ≠ []) :
    ∃ t S', appD k false (.sl k nl xs o) (.sl k n' ys o') S = some (.sl k false (xs ++ ys) (.tok t), S') ∧ sget S' t = some (.tok true) ∧ Pres S S' := by
  rcases h with h | ⟨rfl, h2, rfl⟩
  · obtain ⟨t, S', e, a, b, _⟩ := app_liv h hl hy
    exact ⟨t, S', e, a, b⟩
  · have : xs = [] := List.length_eq_zero_iff.1 h2
    subst this
    refine ⟨S.length, .tok true :: S, ?_, by simp, Pres.push _ _⟩
    rw [app_cap0 S (by simpa using hl), if_neg hy]
    rfl

theorem LivC.tok {S : Store} {t n : Nat} (h : sget S t = some (.tok true)) : LivC S false n (.tok t) := .inl (.inr ⟨rfl, t, rfl, h⟩)
theorem LivC.false {S : Store} {nl : Bool} {n : Nat} {o : Own} (h : LivC S nl n o) (hn : 0 < n) : nl = false := by
  rcases h with (⟨_, h, _⟩ | ⟨h, _⟩) | ⟨h, _⟩
  · omega
  · exact h
  · exact h
theorem LivC.push {S : Store} {nl : Bool} {n : Nat} {o : Own} (e : Ent) (h : LivC S nl n o) : LivC (e :: S) nl n o := by
  rcases h with h | h
  · exact .inl (h.push e)
  · exact .inr h

theorem v15 (nl : Bool) (l : List Row) (r : Row) (hb : Bd l.length) : isoCall (call dp) 15 [eRows nl l, .agg (eRow r)] = some (.i .i64 (ixOf r l)) := by
  apply i15 _ _ _ (by simp [noRefL]) rfl
  simp [s15]
  let J : Nat → List D → Store → Prop := fun q fr S => ∃ k a4 a9, k + q = l.length ∧ r ∉ l.take k ∧ S = [Ent.box (eRow r)] ∧ fr = mkf 19 [(0, eRows nl l), (3, .bx 0 0), (4, a4), (5, .i .i64 k), (9, a9)]
  refine W_loop J ?_ l.length _ _ ⟨0, _, _, by simp, by simp, rfl, rfl⟩
  rintro q fr S ⟨k, a4, a9, hk, hn, rfl, rfl⟩
  rw [← wp_W, e15_0]
  by_cases h : k < l.length
  · obtain ⟨x, hx⟩ : ∃ x, l[k]? = some x := ⟨_, List.getElem?_eq_getElem (by omega)⟩
    simp [s15_0, h, iaD_rows _ hx]
    by_cases e : x = r
    · subst e
      simp [ixOf_found hx hn]
    · simp [e, wrapS (hb.lt (Nat.le_of_lt h))]
      refine ⟨q - 1, by omega, k + 1, _, _, by omega, ?_, rfl, rfl⟩
      rw [take_snoc hx]
      simp [hn]
      exact fun h => e h.symm
  · have : l.take k = l := List.take_of_length_le (by omega)
    rw [this] at hn
    simp [s15_0, h, e15_r0, s15_r0, ixOf_none hn]

theorem v58 (nl nl' : Bool) (ord : List Row) (root : Int) {L : List T} (hL : Cl L) (hw : ∀ t, t ∈ L → Wf ord.length t) (h7 : ord.length ≤ 60) (hz : L.length ≤ 1000000) (t : T) (ht : sub L t) (x : Nat) :
    isoCall (call dp) 58 [eB nl nl' ord (nds L) root, .i .i64 (code L t), .i .i64 x] = some (.b (fn t (bitsA x))) := by
  apply i58 _ _ _ _ (by simp [noRefL]) rfl
  simp [s58]
  let J : Nat → List D → Store → Prop := fun q fr S => ∃ t' a6 a7 a9 a23, t'.size = q ∧ sub L t' ∧ fn t' (bitsA x) = fn t (bitsA x) ∧ sget S 0 = some (.box [eRows nl ord, eNds nl' (nds L), .i .i64 root]) ∧
    fr = mkf 28 [(1, .i .i64 (code L t')), (2, .i .i64 x), (3, .bx 0 0), (6, a6), (7, a7), (9, a9), (23, a23)]
  refine W_loop J ?_ t.size _ _ ⟨t, _, _, _, _, rfl, ht, rfl, rfl, rfl⟩
  rintro q fr S ⟨t', a6, a7, a9, a23, rfl, ht', hf, hS, rfl⟩
  rw [← wp_W, e58_0]
  have l0 := sget_lt hS
  cases t' with
  | leaf b =>
    have : ¬ 2 ≤ code L (.leaf b) := by have := code_leaf_lt L b; omega
    simp [s58_0, this, e58_r0, s58_r0]
    rw [← hf]
    cases b <;> simp [code, fn]
  | node v l h =>
    have hge := code_node_ge L v l h
    have hlt := code_lt ht'
    have hpos : (code L (.node v l h) - 2).toNat = pos L (.node v l h) := by simp only [code]; omega
    have hwt := hw _ ht'
    have hkid := Cl_kids hL _ ht'
    have hv : v ≤ 60 := by have := hwt.1; omega
    have hia := iaD_nds' (nl := nl') .i64 (show 0 ≤ code L (.node v l h) - 2 by omega) (by rw [hpos]; exact nds_get ht')
    have h2 : (2 : Int) = ((2 : Nat) : Int) := rfl
    have hrem := remN (a := x / 2 ^ v) (b := 2) (by omega)
    simp [s58_0, hge, hS, wrap64 (n := code L (.node v l h) - 2) ⟨by omega, by omega⟩, hia, nd, shrN (a := x) hv, jn_eq]
    simp at hrem
    simp [hrem]
    have hbit : bitsA x v = decide (x / 2 ^ v % 2 = 1) := by simp only [bitsA]; exact Nat.testBit_eq_decide_div_mod_eq
    by_cases hb : x / 2 ^ v % 2 = 1
    · have e1 : ((x : Int) / 2 ^ v) % 2 = 1 := by
        have : (((x / 2 ^ v % 2 : Nat)) : Int) = 1 := by rw [hb]; rfl
        simpa using this
      simp [e1]
      refine ⟨h.size, by simp only [T.size]; omega, h, _, _, _, _, rfl, hkid.2, ?_, sget_push hS, rfl⟩
      rw [← hf]; simp [fn, hbit, hb]
    · have e1 : ¬ ((x : Int) / 2 ^ v) % 2 = 1 := by
        intro h
        apply hb
        have : (((x / 2 ^ v % 2 : Nat)) : Int) = 1 := by simpa using h
        omega
      simp [e1]
      refine ⟨l.size, by simp only [T.size]; omega, l, _, _, _, _, rfl, hkid.1, ?_, sget_push hS, rfl⟩
      rw [← hf]; simp [fn, hbit, hb]

theorem range_snoc_map {β : Type} (F : Nat → β) (k : Nat) : (List.range (k + 1)).map F = (List.range k).map F ++ [F k] := by
  rw [List.range_succ, List.map_append]; rfl

/-- One more value of a list that is built by append. -/
theorem app_bools {S : Store} {nl n' : Bool} {o o' : Own} (F : Nat → Bool) (k : Nat) (h : LivC S nl k o) (hk : k ≤ 1000000) :
    ∃ t S', appD 1 false (.sl 1 nl (((List.range k).map F).map fun b => [D.b b]) o) (.sl 1 n' [[.b (F k)]] o') S = some (.sl 1 false (((List.range (k + 1)).map F).map fun b => [D.b b]) (.tok t), S') ∧ sget S' t = some (.tok true) ∧ Pres S S' := by
  have hl : (((List.range k).map F).map fun b => [D.b b]).length = k := by simp
  obtain ⟨t, S', e, a, b⟩ := app_livC (k := 1) (n' := n') (xs := ((List.range k).map F).map fun b => [D.b b]) (ys := [[.b (F k)]]) (o' := o') (by rw [hl]; exact h) (by rw [hl]; simp [maxLenD]; omega) (by simp)
  refine ⟨t, S', ?_, a, b⟩
  rw [e, range_snoc_map]
  simp

theorem v25 (nl nl' : Bool) (ord : List Row) (root : T) {L : List T} (hL : Cl L) (hw : ∀ t, t ∈ L → Wf ord.length t) (h7 : ord.length ≤ 7) (hz : L.length ≤ 1000000) (ht : sub L root) :
    isoCall (call dp) 25 [eB nl nl' ord (nds L) (code L root)] = some (eBools false (tabOf ord.length (fn root))) := by
  apply i25 _ _ (by simp [noRefL]) (by simp)
  have hp : 2 ^ ord.length ≤ 128 := by
    have := Nat.pow_le_pow_right (show 0 < 2 by omega) h7
    simpa using this
  simp [s25]
  let F : Nat → Bool := fun x => fn root (bitsA x)
  let J : Nat → List D → Store → Prop := fun q fr S => ∃ k a2 a11 n o, k + q = 2 ^ ord.length ∧ sget S 0 = some (.box [eRows nl ord, eNds nl' (nds L), .i .i64 (code L root)]) ∧ LivC S n k o ∧
    fr = mkf 23 [(1, .bx 0 0), (2, a2), (3, .sl 1 n (((List.range k).map F).map fun b => [.b b]) o), (4, .i .i64 k), (11, a11)]
  refine W_loop J ?_ (2 ^ ord.length) _ _ ⟨0, _, _, false, .cap0, by simp, rfl, .inr ⟨rfl, rfl, rfl⟩, rfl⟩
  rintro q fr S ⟨k, a2, a11, n, o, hk, hS, hl, rfl⟩
  rw [← wp_W, e25_0]
  have e58 := v58 nl nl' ord (code L root) hL hw (by omega) hz root ht k
  simp only [eB] at e58
  have hsh := shl1 (n := ord.length) (by omega)
  by_cases h : k < 2 ^ ord.length
  · have h' : (k : Int) < ((2 ^ ord.length : Nat) : Int) := by omega
    obtain ⟨t, S', e, a, b⟩ := app_bools (n' := false) (o' := .ro) F k hl (by omega)
    change appD 1 false (.sl 1 n (((List.range k).map F).map fun b => [.b b]) o) (.sl 1 false [[.b (fn root (bitsA k))]] .ro) S = _ at e
    simp [-OX_b, -List.map_map, -Int.natCast_pow, s25_0, hS, hsh, h', e58, e, wrapS (show Bd k by unfold Bd; omega)]
    exact ⟨q - 1, by omega, k + 1, _, _, false, .tok t, by omega, b _ _ hS, .tok a, rfl⟩
  · have hk' : k = 2 ^ ord.length := by omega
    have h' : ¬ (k : Int) < ((2 ^ ord.length : Nat) : Int) := by omega
    simp [-List.map_map, -Int.natCast_pow, s25_0, hS, hsh, h', e25_r0, s25_r0]
    rw [hk'] at hl ⊢
    rw [hl.false (Nat.two_pow_pos _)]
    rfl

end Go.Proofs.YtjlmeikcfdanmaaGreatDoor.DE.V
