/-
  SEVERAL TEXTS IN ONE (joined by tools/merge.py of this repository).
-/
import Derived.Test.YtjlmeikcfdanmaaGreatDoorVm
import Derived.Test.YtjlmeikcfdanmaaGreatDoorSe
import Derived.Test.YtjlmeikcfdanmaaGreatDoorTd
import Derived.Test.YtjlmeikcfdanmaaGreatDoorVn
import Derived.Test.YtjlmeikcfdanmaaGreatDoorVe
import Derived.Test.YtjlmeikcfdanmaaGreatDoorVf
/-! WHAT THE FUNCTIONS ANSWER: natural numbers of one limb. -/
namespace Go.Proofs.YtjlmeikcfdanmaaGreatDoor.DE.V
open Go BT

/-- One round of a loop. -/
theorem W_unroll {cf : CallF} {kl : List Nat} {c : C} {fr : List D} {S : Store} {Q : Ex → List D → Store → Prop} (h : W cf c (fkill fr kl) S (Qseq (fun fr' S' => W cf (.loop kl c) fr' S' Q) Q)) : W cf (.loop kl c) fr S Q := by
  obtain ⟨ex, f1, S1, he, hq⟩ := W_ex.1 h
  have mono : ∀ n m, n ≤ m → LeO (iter (fun fr S => execL cf c (fkill fr kl) S) n fr S) (iter (fun fr S => execL cf c (fkill fr kl) S) m fr S) := fun n m hm => iter_mono (fun _ _ => LeO.refl _) n m hm fr S
  cases ex with
  | normal =>
    obtain ⟨ex', f2, S2, he2, hq2⟩ := W_ex.1 hq
    simp only [execL] at he2
    obtain ⟨n, hn⟩ := (lim_iff (fun n m hm => iter_mono (fun _ _ => LeO.refl _) n m hm f1 S1) _).1 he2
    refine W_ex.2 ⟨ex', f2, S2, ?_, hq2⟩
    simp only [execL]
    refine (lim_iff mono _).2 ⟨n + 1, ?_⟩
    simp only [iter, he]
    exact hn
  | exit id =>
    refine W_ex.2 ⟨.exit id, f1, S1, ?_, hq⟩
    simp only [execL]
    exact (lim_iff mono _).2 ⟨1, by simp only [iter, he]⟩
  | ret =>
    refine W_ex.2 ⟨.ret, f1, S1, ?_, hq⟩
    simp only [execL]
    exact (lim_iff mono _).2 ⟨1, by simp only [iter, he]⟩

theorem wrapu32 {n : Int} (h0 : 0 ≤ n) (h : n < 4294967296) : IntKind.wrap .u32 n = n := by
  have e : n % 4294967296 = n := by omega
  simp [IntKind.wrap, IntKind.signed, IntKind.bits, e]
theorem wrapu64 {n : Int} (h0 : 0 ≤ n) (h : n < 18446744073709551616) : IntKind.wrap .u64 n = n := by
  have e : n % 18446744073709551616 = n := by omega
  simp [IntKind.wrap, IntKind.signed, IntKind.bits, e]
theorem conv_i (k k' : IntKind) (n : Int) : convD k (.i k' n) = some (.i k (k.wrap n)) := (rfl)
theorem conv32 {k : IntKind} {n : Nat} (h : n < 4294967296) : convD .u32 (.i k n) = some (.i .u32 n) := by rw [conv_i, wrapu32 (by omega) (by omega)]
theorem conv64 {k : IntKind} {n : Nat} (h : n < 18446744073709551616) : convD .u64 (.i k n) = some (.i .u64 n) := by rw [conv_i, wrapu64 (by omega) (by omega)]

theorem shlu {v s : Nat} (hs : s ≤ 31) (h : v * 2 ^ s < 4294967296) : binD .shl .num (.i .u64 v) (.i .i64 s) = some (.i .u64 ((v * 2 ^ s : Nat) : Int)) := by
  have hm : min s 64 = s := by omega
  simp only [binD, shOp]
  rw [if_neg (by omega)]
  simp only [IntKind.bits, Int.toNat_natCast, hm]
  have e : (v : Int) * (2 : Int) ^ s = ((v * 2 ^ s : Nat) : Int) := by simp
  rw [e]
  generalize v * 2 ^ s = m at *
  rw [wrapu64 (by omega) (by omega)]

theorem shru32 {v : Nat} (h : v < 4294967296) : binD .shr .num (.i .u64 v) (.i .u64 32) = some (.i .u64 0) := by
  have hm : min 32 64 = 32 := by decide
  simp only [binD, shOp]
  rw [if_neg (by omega)]
  have e : (v : Int).fdiv (2 ^ (min (Int.toNat 32) 64)) = 0 := by
    rw [show (min (Int.toNat 32) 64) = 32 from rfl, show ((2 : Int) ^ 32) = ((4294967296 : Nat) : Int) from rfl, ← Int.ofNat_fdiv]
    rw [Nat.div_eq_of_lt h]; rfl
  simp only [IntKind.bits]
  rw [e]

theorem or0 {k : IntKind} (hk : k = .u32 ∨ k = .u64) {v : Nat} (h : v < 4294967296) : binD .or .num (.i k 0) (.i k v) = some (.i k v) := by
  rcases hk with rfl | rfl
  · have e : ((BitVec.ofInt 32 0 ||| BitVec.ofInt 32 (v : Int)).toNat : Int) = v := by
      simp; omega
    simp only [binD, intOp, if_true]
    exact congrArg (fun z => some (D.i .u32 z)) ((congrArg (IntKind.wrap .u32) e).trans (wrapu32 (by omega) (by omega)))
  · have e : ((BitVec.ofInt 64 0 ||| BitVec.ofInt 64 (v : Int)).toNat : Int) = v := by
      simp; omega
    simp only [binD, intOp, if_true]
    exact congrArg (fun z => some (D.i .u64 z)) ((congrArg (IntKind.wrap .u64) e).trans (wrapu64 (by omega) (by omega)))

theorem quoN {a b : Nat} (h : 0 < b) (ha : a < 9223372036854775808) : binD .quo .num (.i .i64 a) (.i .i64 b) = some (.i .i64 ((a / b : Nat) : Int)) := by
  have : a / b ≤ a := Nat.div_le_self _ _
  simp only [binD, intOp, if_true]
  have e : (a : Int).tdiv b = ((a / b : Nat) : Int) := (Int.ofNat_tdiv a b).symm
  rw [if_neg (by omega), e]
  generalize a / b = c at *
  rw [wrap64 ⟨by omega, by omega⟩]

/-- Limbs. -/
def eLims (nl : Bool) (l : List Nat) (o : Own) : D := .sl 1 nl (List.map (fun n : Nat => [D.i .u32 (n : Int)]) l) o
/-- A number of at most one limb. -/
def eNat (nl : Bool) (v : Nat) : D := eLims nl (if v = 0 then [] else [v]) .ro
@[simp] theorem noRef_lims (nl : Bool) (l : List Nat) : noRef (eLims nl l .ro) = true := by
  simp only [eLims, noRef, Bool.true_and]
  exact noRefLL_map (fun n : Nat => [D.i .u32 (n : Int)]) (fun _ => rfl) l
@[simp] theorem noRef_nat (nl : Bool) (v : Nat) : noRef (eNat nl v) = true := noRef_lims _ _
@[simp] theorem strip_lims (nl : Bool) (l : List Nat) (o : Own) : strip (eLims nl l o) = eLims nl l .ro := (rfl)
@[simp] theorem strip_nat (nl : Bool) (v : Nat) : strip (eNat nl v) = eNat nl v := (rfl)
@[simp] theorem stripT_lims (nl : Bool) (l : List Nat) (o : Own) : stripT (eLims nl l o) = eLims nl l .ro := (rfl)
@[simp] theorem stripT_nat (nl : Bool) (v : Nat) : stripT (eNat nl v) = eNat nl v := (rfl)
@[simp] theorem len_lims (nl : Bool) (l : List Nat) (o : Own) : lenD false (eLims nl l o) = some (.i .i64 l.length) := by simp [eLims, lenD]
theorem ia_lims {nl : Bool} {l : List Nat} {o : Own} {k : Nat} {n : Nat} (h : l[k]? = some n) : iaD 1 (eLims nl l o) (.i .i64 k) = some (.el [.i .u32 n] 0) := by simp [eLims, iaD, h]

theorem v116 (nl : Bool) (xs : List Nat) (k : Nat) (hk : k ≤ xs.length) (hz : ∀ j, k ≤ j → j < xs.length → xs[j]? = some 0) (hn : ∀ j, k = j + 1 → ∃ n, xs[j]? = some n ∧ n ≠ 0) (hb : xs.length ≤ 1000) :
    isoCall (call dp) 116 [eLims nl xs .ro] = some (eLims nl (xs.take k) .ro) := by
  apply i116 _ _ (by simp [noRefL]) (by simp)
  simp [s116]
  let J : Nat → List D → Store → Prop := fun q fr S => ∃ n a2 a15, n = k + q ∧ n ≤ xs.length ∧ fr = mkf 21 [(0, eLims nl xs .ro), (2, a2), (3, .i .i64 n), (15, a15)]
  refine W_loop J ?_ (xs.length - k) _ _ ⟨xs.length, _, _, by omega, by omega, rfl⟩
  rintro q fr S ⟨n, a2, a15, hq, hle, rfl⟩
  rw [← wp_W, e116_0]
  have fin : ∀ n : Nat, n = k → slcD 1 (eLims nl xs .ro) none (some (.i .i64 n)) = some (eLims nl (xs.take k) .ro) := by
    rintro n rfl
    have hk' : (n : Int) ≤ xs.length := by omega
    simp [slcD, bounds, eLims, hk']
  by_cases hpos : 0 < n
  · obtain ⟨m, rfl⟩ : ∃ m, n = m + 1 := ⟨n - 1, by omega⟩
    have w : IntKind.i64.wrap (m : Int) = m := wrap64 ⟨by omega, by omega⟩
    have hp' : (0 : Int) < (m : Int) + 1 := by omega
    cases q with
    | zero =>
      obtain ⟨x, h1, h2⟩ := hn m (by omega)
      have hia := ia_lims (nl := nl) (o := .ro) h1
      have hf := fin (m + 1) (by omega)
      rw [Int.natCast_add] at hf
      simp only [Int.cast_ofNat_Int] at hf
      simp [s116_0, hp', w, hia, h2, e116_r0, s116_r0, hf]
    | succ q =>
      have h1 := hz m (by omega) (by omega)
      have hia := ia_lims (nl := nl) (o := .ro) h1
      simp [s116_0, hp', w, hia]
      exact ⟨q, by omega, m, _, _, by omega, by omega, rfl⟩
  · have h0 : n = 0 := by omega
    have hf := fin n (by omega)
    subst h0
    simp at hf
    simp [s116_0, e116_r0, s116_r0, hf]

theorem v79 (nl : Bool) (v : Nat) : isoCall (call dp) 79 [eNat nl v] = some (.b true) := by
  apply i79 _ _ (by simp [noRefL]) rfl
  rw [strip_nat]
  by_cases h : v = 0
  · simp [s79, eNat, h]
  · simp [s79, eNat, h, eLims, iaD, IntKind.wrap, IntKind.signed, IntKind.bits]

theorem v117 (nl : Bool) (xs : List Nat) (k : Nat) (hk : k ≤ xs.length) (hz : ∀ j, k ≤ j → j < xs.length → xs[j]? = some 0) (hn : ∀ j, k = j + 1 → ∃ n, xs[j]? = some n ∧ n ≠ 0) (hb : xs.length ≤ 128) :
    isoCall (call dp) 117 [eLims nl xs .ro] = some (.tup [eLims nl (xs.take k) .ro, .i .i64 0]) := by
  apply i117 _ _ (by simp [noRefL]) (by simp [noRef, noRefL])
  have e := v116 nl xs k hk hz hn (by omega)
  have : ¬ (128 : Int) < ((min k xs.length : Nat) : Int) := by omega
  simp [s117, e, this]

theorem v117_1 (nl : Bool) (v : Nat) : isoCall (call dp) 117 [eLims nl [v] .ro] = some (.tup [eNat nl v, .i .i64 0]) := by
  by_cases h : v = 0
  · subst h
    exact v117 nl [0] 0 (by simp) (by intro j _ hj; simp at hj; have : j = 0 := (by omega); subst this; rfl) (by intro j hj; omega) (by simp)
  · have := v117 nl [v] 1 (by simp) (by intro j h1 h2; simp at h2; omega) (by intro j hj; have : j = 0 := (by omega); subst this; exact ⟨v, rfl, h⟩) (by simp)
    simpa [eNat, h] using this

theorem v117_2 (nl : Bool) (v : Nat) : isoCall (call dp) 117 [eLims nl [v, 0] .ro] = some (.tup [eNat nl v, .i .i64 0]) := by
  by_cases h : v = 0
  · subst h
    exact v117 nl [0, 0] 0 (by simp) (by intro j _ hj; simp at hj; have : j = 0 ∨ j = 1 := (by omega); rcases this with rfl | rfl <;> rfl) (by intro j hj; omega) (by simp)
  · have := v117 nl [v, 0] 1 (by simp) (by intro j h1 h2; simp at h2; have : j = 1 := (by omega); subst this; rfl) (by intro j hj; have : j = 0 := (by omega); subst this; exact ⟨v, rfl, h⟩) (by simp)
    simpa [eNat, h] using this

theorem v118 (nl : Bool) (v s : Nat) (hs : s ≤ 31) (h : v * 2 ^ s < 4294967296) :
    isoCall (call dp) 118 [eLims nl [v] .ro, .i .i64 s] = some (eLims false [v * 2 ^ s, 0] .ro) := by
  have hv : v < 4294967296 := by
    have : v * 1 ≤ v * 2 ^ s := Nat.mul_le_mul (Nat.le_refl _) (Nat.two_pow_pos _)
    omega
  have w1 := conv64 (k := .u32) (n := v) (by omega)
  have hsh := shlu hs h
  have hsr := shru32 h
  have hor := or0 (.inl rfl) (v := v * 2 ^ s) h
  have w2 := conv32 (k := .u64) (n := v * 2 ^ s) h
  have w3 := conv32 (k := .u64) (n := 0) (by omega)
  have w4 : IntKind.i64.wrap 2 = 2 := wrap64 ⟨by omega, by omega⟩
  have w5 : IntKind.i64.wrap 1 = 1 := wrap64 ⟨by omega, by omega⟩
  generalize v * 2 ^ s = m at *
  simp only [Int.cast_ofNat_Int] at w3
  apply i118 _ _ _ (by simp [noRefL]) (by simp)
  simp [s118, w4, mkslV, maxLenD]
  apply W_unroll
  rw [← wp_W, e118_0]
  simp [s118_0, iaD, eLims, w1, w2, w3, w5, hsh, hsr, hor]
  apply W_unroll
  rw [← wp_W, e118_0]
  simp [s118_0, e118_r0, s118_r0, fzD, chunks]
  rfl

theorem isoCall_lims (g : Nat) (nl : Bool) (l : List Nat) (o : Own) : isoCall (call dp) g [.sl 1 nl (List.map (fun n : Nat => [D.i .u32 (n : Int)]) l) o] = isoCall (call dp) g [eLims nl l .ro] := rfl

theorem v76 (nl : Bool) (v s : Nat) (hs : s ≤ 31) (h : v * 2 ^ s < 4294967296) :
    isoCall (call dp) 76 [eNat nl v, .i .i64 s] = some (.tup [eNat (decide (v = 0)) (v * 2 ^ s), .i .i64 0]) := by
  have e79 := v79 nl v
  apply i76 _ _ _ (by simp [noRefL]) (by simp [noRef, noRefL])
  rw [strip_nat]
  by_cases hv : v = 0
  · subst hv
    simp [s76, e79]
    simp [eNat]
    rfl
  · have hm : ¬ v * 2 ^ s = 0 := by
      have := Nat.two_pow_pos s
      exact Nat.mul_ne_zero hv (by omega)
    have e118 := v118 nl v s hs h
    have e117 := v117_2 false (v * 2 ^ s)
    have hq := quoN (a := s) (b := 32) (by omega) (by omega)
    have hr := remN (a := s) (b := 32) (by omega)
    have h0 : s / 32 = 0 := by omega
    have h1 : s % 32 = s := by omega
    rw [h0] at hq
    rw [h1] at hr
    generalize v * 2 ^ s = m at *
    have a1 : ¬ (s : Int) < -4096 := by omega
    have a2 : ¬ (4096 : Int) < s := by omega
    have a3 : (0 : Int) ≤ s := by omega
    have hN : eNat nl v = eLims nl [v] .ro := by simp [eNat, hv]
    rw [hN] at e79 ⊢
    simp only [Int.cast_ofNat_Int] at hq hr
    have e117' : isoCall (call dp) 117 [.sl 1 false [[.i .u32 m], [.i .u32 0]] (.tok 0)] = some (.tup [eNat false m, .i .i64 0]) := e117
    have happ : appD 1 false (.sl 1 false [] .cap0) (eLims false [m, 0] .ro) [] = some (.sl 1 false [[.i .u32 m], [.i .u32 0]] (.tok 0), [.tok true]) := rfl
    simp [s76, e79, a1, a2, a3, hq, hr, e118, mkslV, maxLenD, happ, e117', hv]

theorem v120 (nl : Bool) (v : Nat) (S : Store) : call dp 120 [eNat nl v] S = some (.fn 173 [.bx S.length 0], .box [eNat nl v] :: S) := by
  obtain ⟨r, S', e, rfl, rfl⟩ := f120 (eNat nl v) S (fun d S' => d = .fn 173 [.bx S.length 0] ∧ S' = .box [eNat nl v] :: S) (by simp [s120, eNat, eLims])
  exact e

theorem v173 (nl : Bool) (v k id : Nat) (S : Store) (h : sget S id = some (.box [eNat nl v])) : call dp 173 [.i .i64 k, .bx id 0] S = some (.i .u32 ((if k = 0 then v else 0 : Nat) : Int), S) := by
  obtain ⟨r, S', e, rfl, rfl⟩ := f173 (.i .i64 k) (.bx id 0) S (fun d S' => d = .i .u32 ((if k = 0 then v else 0 : Nat) : Int) ∧ S' = S) (by
    by_cases hv : v = 0
    · simp [s173, h, hv, eNat]
    · by_cases hk : k = 0
      · subst hk
        simp [s173, h, hv, eNat, eLims, iaD]
      · have : (1 : Int) ≤ k := by omega
        simp [s173, h, hv, hk, eNat, this])
  exact e

theorem v121 (a b : Nat) (h : a + b < 4294967296) : isoCall (call dp) 121 [.i .u32 a, .i .u32 b, .i .u32 0] = some (.tup [.i .u32 ((a + b : Nat) : Int), .i .u32 0]) := by
  apply i121 _ _ _ _ (by simp [noRefL]) (by simp [noRef, noRefL])
  have c1 := conv64 (k := .u32) (n := a) (by omega)
  have c2 := conv64 (k := .u32) (n := b) (by omega)
  have c3 := conv64 (k := .u32) (n := 0) (by omega)
  have c4 := conv32 (k := .u64) h
  have c5 := conv32 (k := .u64) (n := 0) (by omega)
  have hs := shru32 h
  have w := wrapu64 (n := ((a + b : Nat) : Int)) (by omega) (by omega)
  simp only [Int.cast_ofNat_Int] at c3 c5
  simp [s121, c1, c2, c3, c4, c5, hs, w, ← Int.natCast_add]

end Go.Proofs.YtjlmeikcfdanmaaGreatDoor.DE.V

/-! WHAT THE FUNCTIONS ANSWER: sums of natural numbers of one limb; small numbers of the machine out of them. -/
namespace Go.Proofs.YtjlmeikcfdanmaaGreatDoor.DE.V
open Go BT
set_option maxRecDepth 20000

theorem v78 (nl nl' : Bool) (v w : Nat) (h : v + w < 4294967296) : isoCall (call dp) 78 [eNat nl v, eNat nl' w] = some (.tup [eNat false (v + w), .i .i64 0]) := by
  have e79 := v79 nl v
  have e79' := v79 nl' w
  have c1 := v120 nl v []
  have c2 := v120 nl' w [.box [eNat nl v]]
  have k1 := fun S h => v173 nl v 0 0 S h
  have k2 := fun S h => v173 nl' w 0 1 S h
  have k3 := fun S h => v173 nl v 1 0 S h
  have k4 := fun S h => v173 nl' w 1 1 S h
  have p1 := v121 v w h
  have p2 := v121 0 0 (by omega)
  have p3 := v117_2 false (v + w)
  have p4 := v117_1 false (v + w)
  simp only [Int.cast_ofNat_Int, Nat.one_ne_zero, if_true, if_false, Nat.add_zero] at k1 k2 k3 k4 p2
  have l1 : lenD false (eNat nl v) = some (.i .i64 (if v = 0 then 0 else 1)) := by
    by_cases hv : v = 0 <;> simp [eNat, hv]
  have l2 : lenD false (eNat nl' w) = some (.i .i64 (if w = 0 then 0 else 1)) := by
    by_cases hv : w = 0 <;> simp [eNat, hv]
  have w2 : IntKind.i64.wrap 2 = 2 := wrap64 ⟨by omega, by omega⟩
  have w1 : IntKind.i64.wrap 1 = 1 := wrap64 ⟨by omega, by omega⟩
  have w0 : IntKind.i64.wrap (0 + 1) = 1 := wrap64 ⟨by omega, by omega⟩
  apply i78 _ _ _ (by simp [noRefL]) (by simp [noRef, noRefL])
  rw [strip_nat, strip_nat]
  by_cases hz : v = 0 ∧ w = 0
  · obtain ⟨rfl, rfl⟩ := hz
    have p4' : isoCall (call dp) 117 [.sl 1 false [[.i .u32 0]] .ro] = some (.tup [eNat false 0, .i .i64 0]) := p4
    simp only [Int.cast_ofNat_Int, Nat.add_zero] at p1 p4'
    simp [s78, e79, e79', c1, c2, l1, l2, mxD, mkslV, maxLenD, w1]
    apply W_unroll
    rw [← wp_W, e78_0]
    simp [s78_0, k1, k2, p1, iaD, w1]
    apply W_unroll
    rw [← wp_W, e78_0]
    simp [s78_0, e78_r0, s78_r0, fzD, chunks, p4']
  · have hl : mxD (.i .i64 (if v = 0 then 0 else 1)) (.i .i64 (if w = 0 then 0 else 1)) = some (.i .i64 1) := by
      by_cases hv : v = 0 <;> by_cases hw : w = 0 <;> simp [mxD, hv, hw]
      exact hz ⟨hv, hw⟩
    have p3' : isoCall (call dp) 117 [.sl 1 false [[.i .u32 ((v + w : Nat) : Int)], [.i .u32 0]] .ro] = some (.tup [eNat false (v + w), .i .i64 0]) := p3
    generalize hm : v + w = m at *
    simp [s78, e79, e79', c1, c2, l1, l2, hl, mkslV, maxLenD, w2]
    apply W_unroll
    rw [← wp_W, e78_0]
    simp [s78_0, k1, k2, p1, iaD, w1]
    apply W_unroll
    rw [← wp_W, e78_0]
    simp [s78_0, k3, k4, p2, iaD, w2]
    apply W_unroll
    rw [← wp_W, e78_0]
    simp [s78_0, e78_r0, s78_r0, fzD, chunks, p3']

theorem v75 : isoCall (call dp) 75 [.i .u64 1] = some (eNat false 1) := by
  apply i75 _ _ (by simp [noRefL]) (by simp)
  have c1 := conv32 (k := .u64) (n := 1) (by omega)
  have c2 := conv32 (k := .u64) (n := 0) (by omega)
  have c3 := shru32 (v := 1) (by omega)
  have e := v116 false [1, 0] 1 (by simp) (by intro j h1 h2; simp at h2; have : j = 1 := (by omega); subst this; rfl) (by intro j hj; have : j = 0 := (by omega); subst this; exact ⟨1, rfl, by omega⟩) (by simp)
  have e' : isoCall (call dp) 116 [.sl 1 false [[.i .u32 1], [.i .u32 0]] .ro] = some (eNat false 1) := e
  have hc : cellsV 1 false [.i .u32 1, .i .u32 0] = some [[.i .u32 1], [.i .u32 0]] := rfl
  simp only [Int.cast_ofNat_Int] at c1 c2 c3
  simp [s75, c1, c2, c3, hc, e']

theorem v36 (nl : Bool) (v : Nat) (h : v < 4294967296) : isoCall (call dp) 36 [eNat nl v] = some (.tup [.i .u64 v, .b true]) := by
  have e79 := v79 nl v
  have c1 := conv64 (k := .u32) (n := v) (by omega)
  have c2 := shlu (v := v) (s := 0) (by omega) (by simpa using h)
  have c3 := or0 (k := .u64) (.inr rfl) h
  have c4 : binD .mul .num (.i .i64 32) (.i .i64 0) = some (.i .i64 0) := rfl
  have w1 : IntKind.i64.wrap 1 = 1 := wrap64 ⟨by omega, by omega⟩
  simp only [Int.cast_ofNat_Int, Nat.pow_zero, Nat.mul_one] at c2
  apply i36 _ _ (by simp [noRefL]) (by simp [noRef, noRefL])
  rw [strip_nat]
  by_cases hv : v = 0
  · subst hv
    simp [s36, e79]
    simp [eNat]
    apply W_unroll
    rw [← wp_W, e36_0]
    simp [s36_0, e36_r0, s36_r0]
  · have hN : eNat nl v = eLims nl [v] .ro := by simp [eNat, hv]
    rw [hN] at e79 ⊢
    simp [s36, e79]
    apply W_unroll
    rw [← wp_W, e36_0]
    simp [s36_0, eLims, iaD, c1, c2, c3, c4, w1]
    apply W_unroll
    rw [← wp_W, e36_0]
    simp [s36_0, e36_r0, s36_r0]

end Go.Proofs.YtjlmeikcfdanmaaGreatDoor.DE.V

/-! WHAT THE FUNCTIONS ANSWER: how many models a diagram has. -/
namespace Go.Proofs.YtjlmeikcfdanmaaGreatDoor.DE.V
open Go BT
set_option maxRecDepth 20000

noncomputable def cts (n : Nat) (M : List T) : List (List D) := [eNat true 0] :: [eNat false 1] :: M.map fun s => [eNat false (cntT n s)]

theorem cts_len (n : Nat) (M : List T) : (cts n M).length = M.length + 2 := by simp [cts]
theorem cts_snoc (n : Nat) (M : List T) (t : T) : cts n (M ++ [t]) = cts n M ++ [[eNat false (cntT n t)]] := by simp [cts]

theorem cts_get (n : Nat) {M : List T} : ∀ {s : T}, sub M s → ∃ b, (cts n M)[(code M s).toNat]? = some [eNat b (cntT n s)]
  | .leaf false, _ => ⟨true, rfl⟩
  | .leaf true, _ => ⟨false, rfl⟩
  | .node v l h, k => by
    have e : (code M (.node v l h)).toNat = pos M (.node v l h) + 2 := by simp only [code]; omega
    refine ⟨false, ?_⟩
    rw [e]
    simp only [cts, List.getElem?_cons_succ, List.getElem?_map, pos_get k]
    rfl

theorem cts_ia (n : Nat) {M : List T} {s : T} (k : sub M s) (o : Own) : ∃ b, iaD 1 (.sl 1 false (cts n M) o) (.i .i64 (code M s)) = some (.el [eNat b (cntT n s)] 0) := by
  obtain ⟨b, e⟩ := cts_get n k
  have := code_nonneg M s
  exact ⟨b, by simp [iaD, this, e]⟩

theorem toNatSub {a v : Nat} (h : v < a) (ha : a ≤ 60) : IntKind.i64.wrap (IntKind.i64.wrap ((a : Int) - v) - 1) = ((a - v - 1 : Nat) : Int) := by
  rw [wrap64 (n := (a : Int) - v) ⟨by omega, by omega⟩, wrap64 ⟨by omega, by omega⟩]
  omega

theorem cnt_shift {n a : Nat} {t : T} (w : Wf n t) (ha : a ≤ top n t) : cntT n t * 2 ^ a ≤ 2 ^ n := by
  have e := cntT_eq w
  have l := cntF_le n (fn t)
  have : cntT n t * 2 ^ a ≤ cntT n t * 2 ^ top n t := Nat.mul_le_mul (Nat.le_refl _) (Nat.pow_le_pow_right (by omega) ha)
  omega

open Classical in
theorem v35 (nl nl' : Bool) (ord : List Row) (t : T) (hn : nl = true → ord = []) (h7 : ord.length ≤ 7) (ho : OrdOk ord) (w : Wf ord.length t) :
    ∃ b, isoCall (call dp) 35 [eT nl nl' ord t] = some (.tup [eNat b (cntF ord.length (fn t)), .i .i64 0]) := by
  have hsm := small h7 w
  have hp := pow7 h7
  obtain ⟨hL, hs, hw⟩ := post_nil t
  have hw := hw _ w
  have e33 : isoCall (call dp) 33 [eT nl nl' ord t] = some (.b true) := by
    have := v33 nl nl' ord (nds (post t [])) (code (post t []) t) hn (by rw [nds_len]; unfold Bd; omega) (by unfold Bd; omega)
    rw [decide_eq_true (VB_VT.2 ⟨t, VT_eT ho h7 w⟩)] at this
    exact this
  have e77 := fun r h0 h => v77 nl nl' ord (nds (post t [])) (code (post t []) t) r h0 h
  generalize hLd : post t [] = L at *
  have e75 := v75
  let P : D → Prop := fun r => ∃ b, r = .tup [eNat b (cntF ord.length (fn t)), .i .i64 0]
  suffices h : ∃ r, isoCall (call dp) 35 [eT nl nl' ord t] = some r ∧ P r by
    obtain ⟨r, e, b, rfl⟩ := h
    exact ⟨b, e⟩
  simp only [eT, hLd] at e33 ⊢
  apply j35 _ _ (by simp [noRefL]) (by rintro r ⟨b, rfl⟩; simp [noRef, noRefL])
  have hc : cellsV 1 false [.sl 1 true [] .ro, eNat false 1] = some (cts ord.length []) := rfl
  have hb : ∀ S, bslO 1 (cts ord.length []) S = (.sl 1 false (cts ord.length []) (.tok S.length), .tok true :: S) := fun _ => rfl
  rw [strip_eB]
  simp only [eB] at e33 e77 ⊢
  simp [s35, e33, e75, hc, hb, nds_len]
  let J : Nat → List D → Store → Prop := fun q fr S => ∃ k a2 a3 a22 o, k + q = L.length ∧ sget S 0 = some (.box [eRows nl ord, eNds nl' (nds L), .i .i64 (code L t)]) ∧ Liv S false (k + 2) o ∧
    fr = mkf 82 [(1, .bx 0 0), (2, a2), (3, a3), (4, .sl 1 false (cts ord.length (L.take k)) o), (19, eNds nl' (nds L)), (20, .i .i64 L.length), (21, .i .i64 k), (22, a22)]
  refine W_loop J ?_ L.length _ _ ⟨0, _, _, _, .tok 1, by simp, rfl, .inr ⟨rfl, 1, rfl, rfl⟩, rfl⟩
  rintro q fr S ⟨k, a2, a3, a22, o, hk, hS, hl, rfl⟩
  rw [← wp_W, e35_0]
  have l0 := sget_lt hS
  by_cases h : k < L.length
  · have h' : (k : Int) < (L.length : Int) := by omega
    obtain ⟨x, hx⟩ : ∃ x, L[k]? = some x := ⟨_, List.getElem?_eq_getElem h⟩
    have htk := take_snoc hx
    have hpre : Cl (L.take k ++ [x]) := by
      rw [← htk]
      exact Cl_pre (M := L.drop (k + 1)) (by rw [List.take_append_drop]; exact hL)
    obtain ⟨_, _, hkid⟩ := Cl_snoc.1 hpre
    have hxL : x ∈ L := List.mem_of_getElem? hx
    have hnx : (nds L)[k]? = some (nd L x) := by simp [nds, hx]
    have hia := iaD_nds (nl := nl') .i64 hnx
    cases x with
    | leaf b => exact absurd hkid (by simp [kids])
    | node v l r =>
      obtain ⟨wv, wl, wr, _, wwl, wwr⟩ := hw _ hxL
      obtain ⟨kl, kr⟩ := hkid
      have hsub : ∀ {s : T}, sub (L.take k) s → sub L s ∧ code L s = code (L.take k) s := by
        intro s hs
        have := code_app (L.drop k) hs
        rw [List.take_append_drop] at this
        exact ⟨by have h := sub_app (L.drop k) hs; rw [List.take_append_drop] at h; exact h, this⟩
      obtain ⟨sl, cl⟩ := hsub kl
      obtain ⟨sr, cr⟩ := hsub kr
      have bl := code_lt sl
      have br := code_lt sr
      have nl0 := code_nonneg L l
      have nr0 := code_nonneg L r
      have f1 := e77 (code L l) ⟨by omega, by omega⟩ (by rw [nds_len]; exact bl)
      have f2 := e77 (code L r) ⟨by omega, by omega⟩ (by rw [nds_len]; exact br)
      rw [lev_code sl] at f1
      rw [lev_code sr] at f2
      have tl := top_le wwl
      have tr := top_le wwr
      have g1 := toNatSub wl (by omega)
      have g2 := toNatSub wr (by omega)
      obtain ⟨b1, i1⟩ := cts_ia ord.length kl o
      obtain ⟨b2, i2⟩ := cts_ia ord.length kr o
      rw [← cl] at i1
      rw [← cr] at i2
      have z1 := cnt_shift wwl (a := top ord.length l - v - 1) (by omega)
      have z2 := cnt_shift wwr (a := top ord.length r - v - 1) (by omega)
      have m1 := v76 b1 (cntT ord.length l) (top ord.length l - v - 1) (by omega) (by omega)
      have m2 := v76 b2 (cntT ord.length r) (top ord.length r - v - 1) (by omega) (by omega)
      have m3 := v78 (decide (cntT ord.length l = 0)) (decide (cntT ord.length r = 0)) (cntT ord.length l * 2 ^ (top ord.length l - v - 1)) (cntT ord.length r * 2 ^ (top ord.length r - v - 1)) (by omega)
      have hlen : (cts ord.length (L.take k)).length = k + 2 := by rw [cts_len, List.length_take]; omega
      obtain ⟨t', S', e, a, b, _⟩ := app_liv (k := 1) (n' := false) (xs := cts ord.length (L.take k)) (ys := [[eNat false (cntT ord.length (.node v l r))]]) (o' := .ro) (hlen ▸ hl.push (.box (eNd (nd L (.node v l r))))) (by rw [hlen]; simp [maxLenD]; omega) (by simp)
      rw [← cts_snoc, ← htk] at e
      have hcv : cellsV 1 false [eNat false (cntT ord.length (.node v l r))] = some [[eNat false (cntT ord.length (.node v l r))]] := rfl
      have hsum : cntT ord.length l * 2 ^ (top ord.length l - v - 1) + cntT ord.length r * 2 ^ (top ord.length r - v - 1) = cntT ord.length (.node v l r) := rfl
      rw [hsum] at m3
      simp only [nd] at hia e
      simp [-OX_b, s35_0, h', hia, sget_push hS, f1, f2, i1, i2, g1, g2, m1, m2, m3, hcv, e, wrapS (show Bd k by unfold Bd; omega)]
      exact ⟨q - 1, by omega, k + 1, _, _, _, .tok t', by omega, b _ _ (sget_push hS), .inr ⟨rfl, t', rfl, a⟩, rfl⟩
  · have hkl : k = L.length := by omega
    have h' : ¬ (k : Int) < (L.length : Int) := by omega
    rw [hkl, List.take_length] at *
    have br := code_lt hs
    have nr0 := code_nonneg L t
    have f1 := e77 (code L t) ⟨by omega, by omega⟩ (by rw [nds_len]; exact br)
    rw [lev_code hs] at f1
    have tl := top_le w
    obtain ⟨b1, i1⟩ := cts_ia ord.length hs o
    have m1 := v76 b1 (cntT ord.length t) (top ord.length t) (by omega) (by have := cnt_shift w (a := top ord.length t) (by omega); omega)
    rw [cntT_eq w] at m1
    simp [-OX_b, s35_0, h', e35_r0, s35_r0, hS, f1, i1, m1]
    exact ⟨_, rfl⟩

open Classical in
theorem v35_bad (nl nl' : Bool) (ord : List Row) (ns : List Nd) (root : Int) (hn : nl = true → ord = []) (hb : Bd (ns.length + 2)) (hb' : Bd ord.length) (hv : ¬ VB ord ns root) :
    isoCall (call dp) 35 [eB nl nl' ord ns root] = some (.tup [.sl 1 true [] .ro, .i .i64 1]) := by
  have e33 := v33 nl nl' ord ns root hn hb hb'
  simp only [hv, decide_false, eB] at e33
  apply i35 _ _ (by simp [noRefL]) (by simp [noRef, noRefL, noRefLL])
  simp [s35, e33]
  rfl

end Go.Proofs.YtjlmeikcfdanmaaGreatDoor.DE.V

/-! THE LAW BddModels ON DATA. -/
namespace Go.Proofs.YtjlmeikcfdanmaaGreatDoor.DE.V
open Go BT
set_option maxRecDepth 20000

theorem cntL_snoc (l : List Bool) (b : Bool) : cntL (l ++ [b]) = cntL l + (if b = true then 1 else 0) := by
  rw [cntL_app]; cases b <;> rfl

theorem cntL_le (l : List Bool) : cntL l ≤ l.length := List.length_filter_le _ _

open Classical in
theorem law6 (n m : Bool) (o : List Row) (x : List Nd) (r : Int)
    (g : n = true → o = []) (_ : m = true → x = []) (_ : ∀ a ∈ o, okRow a) (_ : ∀ a ∈ x, okNd64 a) (_ : in64 r) :
    ∃ S', call dp 6 [eB n m o x r] [] = some (.b true, S') := by
  obtain ⟨r, S', e, rfl⟩ := f6 (eB n m o x r) [] (fun d _ => d = .b true) (by
    have a1 := v11 n m o x r
    simp only [eB] at a1
    by_cases b1 : o.length ≤ 7 ∧ x.length ≤ 40
    case neg =>
      have : (decide (o.length ≤ 7) && decide (x.length ≤ 40)) = false := by rw [← Bool.decide_and]; exact decide_eq_false b1
      rw [this] at a1
      simp [-OX_b, s6, v10, a1]
    simp only [b1, decide_true, Bool.and_true] at a1
    obtain ⟨b1, c1⟩ := b1
    have e24 := v24 n m o x r (by unfold Bd; omega) (by unfold Bd; omega)
    by_cases hva : VB o x r
    case neg =>
      have e35 := v35_bad n m o x r g (by unfold Bd; omega) (by unfold Bd; omega) hva
      rw [decide_eq_false hva] at e24
      simp only [eB] at e35 e24
      simp [-OX_b, s6, v10, a1, e35, e24]
    obtain ⟨t, TT⟩ := VB_VT.1 hva
    obtain ⟨⟨hoo, _⟩, wt, rfl, rfl, _⟩ := TT
    obtain ⟨cL, sL, wL⟩ := post_nil t
    obtain ⟨q1, _, N⟩ := notT_spec n m o t hoo b1 wt g
    obtain ⟨k1, M1⟩ := v35 n m o t g b1 hoo wt
    obtain ⟨k2, M2⟩ := v35 n q1 o (notT t) g b1 hoo (Wf_not wt)
    have e25 := v25 n m o t cL (wL _ wt) b1 (by rw [nds_len] at c1; omega) sL
    rw [decide_eq_true hva] at e24
    have hp := pow7 b1
    have hn := cntF_not o.length (fn t)
    have hfn : fn (notT t) = fun s => !fn t s := funext fun s => fn_not t s
    rw [hfn] at M2
    have U1 := v36 k1 (cntF o.length (fn t)) (by omega)
    have U2 := v36 k2 (cntF o.length (fun s => !fn t s)) (by omega)
    have hdt : Dep o.length 0 (fn t) := fun s r h => fn_agree wt fun i _ hi => h i (Nat.zero_le _) hi
    have hct := cnt_tab o.length (fn t) hdt
    simp only [eB, eT] at N M1 M2 e24 e25
    simp [-OX_b, s6, v10, a1, M1, e24, e25]
    let J : Nat → List D → Store → Prop := fun q fr S => ∃ k a2 a41, k + q = 2 ^ o.length ∧ sget S 0 = some (.box [eRows n o, eNds m (nds (post t [])), .i .i64 (code (post t []) t)]) ∧
      fr = mkf 91 [(1, .bx 0 0), (2, a2), (3, eNat k1 (cntF o.length (fn t))), (4, .i .i64 0), (5, .i .u64 (cntL ((tabOf o.length (fn t)).take k))), (38, eBools false (tabOf o.length (fn t))), (39, .i .i64 (tabOf o.length (fn t)).length), (40, .i .i64 k), (41, a41)]
    refine W_loop J ?_ (2 ^ o.length) _ _ ⟨0, _, _, by omega, rfl, rfl⟩
    rintro q fr S ⟨k, a2, a41, hk, hS, rfl⟩
    rw [← wp_W, e6_0]
    have hlt : cntL ((tabOf o.length (fn t)).take k) ≤ 128 := by
      have := cntL_le ((tabOf o.length (fn t)).take k)
      rw [List.length_take, tabOf_len] at this
      omega
    by_cases h : k < 2 ^ o.length
    · have h' : (k : Int) < ((tabOf o.length (fn t)).length : Int) := by rw [tabOf_len]; omega
      have hget := tabOf_get (fn t) h
      have hia := ia_bools (nl := false) hget
      have hsn := cntL_snoc ((tabOf o.length (fn t)).take k) (fn t (bitsA k))
      rw [← take_snoc hget] at hsn
      have fin : ∀ c : Nat, c = cntL ((tabOf o.length (fn t)).take (k + 1)) → ∃ m', m' < q ∧ J m' (mkf 91 [(1, .bx 0 0), (2, a2), (3, eNat k1 (cntF o.length (fn t))), (4, .i .i64 0), (5, .i .u64 c), (38, eBools false (tabOf o.length (fn t))), (39, .i .i64 (tabOf o.length (fn t)).length), (40, .i .i64 ((k + 1 : Nat) : Int)), (41, .top)]) S := by
        rintro c rfl
        exact ⟨q - 1, by omega, k + 1, _, _, by omega, hS, rfl⟩
      have wk := wrapS (show Bd k by unfold Bd; omega)
      have wu := wrapu64 (n := ((cntL ((tabOf o.length (fn t)).take k) + 1 : Nat) : Int)) (by omega) (by omega)
      rw [Int.natCast_add] at wu
      simp only [Int.cast_ofNat_Int] at wu
      by_cases hb : fn t (bitsA k) = true
      · rw [hb] at hsn hia
        simp [-OX_b, -Int.natCast_add, s6_0, h', hia, jn_eq, wk, wu]
        exact fin (cntL ((tabOf o.length (fn t)).take k) + 1) (by rw [hsn]; rfl)
      · have hb : fn t (bitsA k) = false := by simpa using hb
        rw [hb] at hsn hia
        simp [-OX_b, -Int.natCast_add, s6_0, h', hia, jn_eq, wk]
        exact fin _ (by rw [hsn]; rfl)
    · have hk' : k = 2 ^ o.length := by omega
      have h' : ¬ (k : Int) < ((tabOf o.length (fn t)).length : Int) := by rw [tabOf_len]; omega
      have htl : (tabOf o.length (fn t)).take k = tabOf o.length (fn t) := List.take_of_length_le (by rw [tabOf_len]; omega)
      rw [htl, hct] at *
      have sh : binD .shl .num (.i .u64 1) (.i .i64 o.length) = some (.i .u64 ((2 ^ o.length : Nat) : Int)) := by
        have := shlu (v := 1) (s := o.length) (by omega) (by omega)
        simpa [-Int.natCast_pow] using this
      have wa := wrapu64 (n := ((cntF o.length (fn t) + cntF o.length (fun s => !fn t s) : Nat) : Int)) (by omega) (by omega)
      rw [hn] at wa
      have we : ((cntF o.length (fn t) : Nat) : Int) + (cntF o.length (fun s => !fn t s) : Nat) = ((2 ^ o.length : Nat) : Int) := by omega
      simp [-OX_b, -Int.natCast_pow, s6_0, h', e6_r0, s6_r0, U1, U2, hS, N, M2, we, wa, sh])
  exact ⟨S', e⟩

end Go.Proofs.YtjlmeikcfdanmaaGreatDoor.DE.V
