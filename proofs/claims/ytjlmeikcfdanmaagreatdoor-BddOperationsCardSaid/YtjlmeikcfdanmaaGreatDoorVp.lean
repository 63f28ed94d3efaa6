/-
  WHAT THE FUNCTIONS ANSWER: the diagram of a table.
-/
import Derived.Test.YtjlmeikcfdanmaaGreatDoorVn
namespace Go.Proofs.YtjlmeikcfdanmaaGreatDoor.DE.V
open Go BT

open Classical in
theorem v93 (nl : Bool) (n v b : Nat) (h7 : n ≤ 7) (hv : v ≤ n) (hb : b < 2 ^ v) (f : (Nat → Bool) → Bool) :
    isoCall (call dp) 93 [eBools nl (tabOf n f), .i .i64 n, .i .i64 v, .i .i64 b] = some (.b (decide (∀ x, x < 2 ^ n → x % 2 ^ v = b → f (bitsA x) = f (bitsA b)))) := by
  have hp := pow7 h7
  have hvn : 2 ^ v ≤ 2 ^ n := Nat.pow_le_pow_right (by omega) hv
  have hbn : b < 2 ^ n := by omega
  obtain ⟨c, hc⟩ : ∃ c, c = decide (∀ x, x < 2 ^ n → x % 2 ^ v = b → f (bitsA x) = f (bitsA b)) := ⟨_, rfl⟩
  rw [← hc]
  apply i93 _ _ _ _ _ (by simp [noRefL, noRef]) rfl
  simp only [s93]
  let J : Nat → List D → Store → Prop := fun q fr S => ∃ k a8 a13, k + q = 2 ^ n ∧ (∀ x, x < k → x % 2 ^ v = b → f (bitsA x) = f (bitsA b)) ∧
    fr = mkf 33 [(0, eBools nl (tabOf n f)), (1, .i .i64 n), (2, .i .i64 v), (3, .i .i64 b), (8, a8), (9, .i .i64 k), (13, a13)]
  refine W_loop J ?_ (2 ^ n) _ _ ⟨0, _, _, by simp, fun x h => by omega, rfl⟩
  rintro q fr S ⟨k, a8, a13, hk, hx, rfl⟩
  rw [← wp_W, e93_0]
  have hs1 := shl1 (n := n) (by omega)
  have hs2 := shl1 (n := v) (by omega)
  have hrem := remN (a := k) (b := 2 ^ v) (Nat.two_pow_pos _)
  by_cases h : k < 2 ^ n
  · have h' : (k : Int) < ((2 ^ n : Nat) : Int) := by omega
    have ih : ∀ d, (k % 2 ^ v = b → f (bitsA k) = f (bitsA b)) → ∃ m', m' < q ∧ J m' (mkf 33 [(0, eBools nl (tabOf n f)), (1, .i .i64 n), (2, .i .i64 v), (3, .i .i64 b), (8, a8), (9, .i .i64 ((k + 1 : Nat) : Int)), (13, .top)]) d := by
      intro d hd
      refine ⟨q - 1, by omega, k + 1, _, _, by omega, fun x hx1 hx2 => ?_, rfl⟩
      by_cases e : x = k
      · subst e; exact hd hx2
      · exact hx x (by omega) hx2
    by_cases hm : k % 2 ^ v = b
    · have hm' : ((k % 2 ^ v : Nat) : Int) = (b : Int) := by omega
      simp only [s93_0, hs1, OX_some, bin_lss, h', decide_true, WB_true, OX_b, if_true, hs2, hrem, bin_eql, hm', gsel_tt, ia_bools (tabOf_get f h), ia_bools (tabOf_get f hbn), ldD_el, rdK_one, List.getElem?_cons_zero, bin_bneq]
      cases h1 : f (bitsA k) <;> cases h2 : f (bitsA b)
      · simp [wrapS (show Bd k by unfold Bd; omega)]
        exact ih S (fun _ => by rw [h1, h2])
      · have : c = false := by rw [hc]; exact decide_eq_false fun hh => by have := hh k h hm; rw [h1, h2] at this; cases this
        simp [this]
      · have : c = false := by rw [hc]; exact decide_eq_false fun hh => by have := hh k h hm; rw [h1, h2] at this; cases this
        simp [this]
      · simp [wrapS (show Bd k by unfold Bd; omega)]
        exact ih S (fun _ => by rw [h1, h2])
    · have hm' : ¬ ((k % 2 ^ v : Nat) : Int) = (b : Int) := by omega
      simp only [s93_0, hs1, OX_some, bin_lss, h', decide_true, WB_true, OX_b, if_true, hs2, hrem, bin_eql, hm', decide_false]
      simp [wrapS (show Bd k by unfold Bd; omega)]
      exact ih S (fun e => absurd e hm)
  · have h' : ¬ (k : Int) < ((2 ^ n : Nat) : Int) := by omega
    have : c = true := by rw [hc]; exact decide_eq_true fun x h1 h2 => hx x (by omega) h2
    simp [-Int.natCast_pow, s93_0, hs1, h', e93_r0, s93_r0, this]

/-- One of the parts that the construction comes to. -/
def Part (n : Nat) (f : (Nat → Bool) → Bool) (s : T) : Prop := ∃ v b, v ≤ n ∧ b < 2 ^ v ∧ s = subT n v b f

theorem parts_len {n : Nat} (h7 : n ≤ 7) {f : (Nat → Bool) → Bool} {M : List T} (hM : Cl M) (h : ∀ s, s ∈ M → Part n f s) : M.length ≤ 1024 := by
  have := nodup_len (L := (List.range 8).flatMap fun v => (List.range 128).map fun b => subT n v b f) (Cl_nodup hM) (by
    intro s hs
    obtain ⟨v, b, hv, hb, rfl⟩ := h s hs
    have : 2 ^ v ≤ 128 := pow7 (by omega)
    exact List.mem_flatMap.2 ⟨v, List.mem_range.2 (by omega), List.mem_map.2 ⟨b, List.mem_range.2 (by omega), rfl⟩⟩)
  refine Nat.le_trans this ?_
  simp [List.length_flatMap]
  decide

theorem Part_her {n : Nat} (f : (Nat → Bool) → Bool) {v b : Nat} (hb : b < 2 ^ v) (hv : v < n) : Part n f (subT n (v + 1) b f) ∧ Part n f (subT n (v + 1) (b + 2 ^ v) f) :=
  ⟨⟨v + 1, b, by omega, by rw [Nat.pow_succ]; omega, rfl⟩, ⟨v + 1, b + 2 ^ v, by omega, by rw [Nat.pow_succ]; omega, rfl⟩⟩

theorem v53_leaf (nl : Bool) (n : Nat) (h7 : n ≤ 7) (f : (Nat → Bool) → Bool) (hd : Dep n 0 f) (v b : Nat) (M : List T) (m : Bool) (o : Own) (S : Store) (hv : v ≤ n) (hb : b < 2 ^ v)
    (hc : ∀ x, x < 2 ^ n → x % 2 ^ v = b → f (bitsA x) = f (bitsA b)) :
    call dp 53 [eBools nl (tabOf n f), .i .i64 n, .i .i64 v, .i .i64 b, .sl 3 m ((nds M).map eNd) o] S =
        some (.tup [.i .i64 (code (post (subT n v b f) M) (subT n v b f)), .sl 3 m ((nds (post (subT n v b f) M)).map eNd) o], S) := by
  have hbn : b < 2 ^ n := Nat.lt_of_lt_of_le hb (Nat.pow_le_pow_right (by omega) hv)
  have hu : subT n v b f = .leaf (f (bitsA b)) := subT_const hd hv ((const_iff hd hv hb).1 hc)
  rw [hu]
  let P : D → Store → Prop := fun r S' => r = .tup [.i .i64 (code (post (.leaf (f (bitsA b))) M) (.leaf (f (bitsA b)))), .sl 3 m ((nds (post (.leaf (f (bitsA b))) M)).map eNd) o] ∧ S' = S
  obtain ⟨r, S', e, rfl, rfl⟩ := f53 (eBools nl (tabOf n f)) (.i .i64 n) (.i .i64 v) (.i .i64 b) (.sl 3 m ((nds M).map eNd) o) S P (by
    have e93 := v93 nl n v b h7 hv hb f
    rw [decide_eq_true hc] at e93
    cases hf : f (bitsA b) with
    | true => simp [s53, e93, ia_bools (tabOf_get f hbn), hf]; exact ⟨by rw [hf]; rfl, rfl⟩
    | false => simp [s53, e93, ia_bools (tabOf_get f hbn), hf]; exact ⟨by rw [hf]; rfl, rfl⟩)
  exact e

theorem v53 (nl : Bool) (n : Nat) (h7 : n ≤ 7) (f : (Nat → Bool) → Bool) (hd : Dep n 0 f) : ∀ (k v b : Nat) (M : List T) (m : Bool) (o : Own) (S : Store), n - v = k → v ≤ n → b < 2 ^ v → Cl M → (∀ s, s ∈ M → Part n f s) → LivC S m M.length o →
    ∃ m' o' S', call dp 53 [eBools nl (tabOf n f), .i .i64 n, .i .i64 v, .i .i64 b, .sl 3 m ((nds M).map eNd) o] S =
        some (.tup [.i .i64 (code (post (subT n v b f) M) (subT n v b f)), .sl 3 m' ((nds (post (subT n v b f) M)).map eNd) o'], S') ∧
      LivC S' m' (post (subT n v b f) M).length o' ∧ (∀ s, s ∈ post (subT n v b f) M → Part n f s) ∧ Pres S S' := by
  intro k
  have leafc : ∀ (v b : Nat) (M : List T) (m : Bool) (o : Own) (S : Store), v ≤ n → b < 2 ^ v → (∀ s, s ∈ M → Part n f s) → LivC S m M.length o → (∀ x, x < 2 ^ n → x % 2 ^ v = b → f (bitsA x) = f (bitsA b)) →
      ∃ m' o' S', call dp 53 [eBools nl (tabOf n f), .i .i64 n, .i .i64 v, .i .i64 b, .sl 3 m ((nds M).map eNd) o] S =
        some (.tup [.i .i64 (code (post (subT n v b f) M) (subT n v b f)), .sl 3 m' ((nds (post (subT n v b f) M)).map eNd) o'], S') ∧
      LivC S' m' (post (subT n v b f) M).length o' ∧ (∀ s, s ∈ post (subT n v b f) M → Part n f s) ∧ Pres S S' := by
    intro v b M m o S hv hb hP hl hc
    have e := v53_leaf nl n h7 f hd v b M m o S hv hb hc
    have hu : subT n v b f = .leaf (f (bitsA b)) := subT_const hd hv ((const_iff hd hv hb).1 hc)
    have hp : post (subT n v b f) M = M := by rw [hu]; rfl
    exact ⟨m, o, S, e, by rw [hp]; exact hl, by rw [hp]; exact hP, Pres.refl _⟩
  induction k with
  | zero =>
    intro v b M m o S hk hv hb hM hP hl
    have : v = n := by omega
    subst this
    exact leafc v b M m o S hv hb hP hl (fun x h1 h2 => by rw [Nat.mod_eq_of_lt h1] at h2; rw [h2])
  | succ k ih =>
    intro v b M m o S hk hv hb hM hP hl
    by_cases hc : ∀ x, x < 2 ^ n → x % 2 ^ v = b → f (bitsA x) = f (bitsA b)
    · exact leafc v b M m o S hv hb hP hl hc
    have hvn : v < n := by omega
    have hp7 := pow7 h7
    have hpv : 2 ^ v ≤ 128 := pow7 (by omega)
    have hstep := subT_step (f := f) hvn hb
    have hb1 : b < 2 ^ (v + 1) := by rw [Nat.pow_succ]; omega
    have hb2 : b + 2 ^ v < 2 ^ (v + 1) := by rw [Nat.pow_succ]; omega
    have e93 := v93 nl n v b h7 hv hb f
    rw [decide_eq_false hc] at e93
    obtain ⟨m1, o1, S1, q1, l1, p1, r1⟩ := ih (v + 1) b M m o S (by omega) (by omega) hb1 hM hP hl
    obtain ⟨N1, n1, c1, s1, _⟩ := post_facts hM (subT n (v + 1) b f)
    obtain ⟨m2, o2, S2, q2, l2, p2, r2⟩ := ih (v + 1) (b + 2 ^ v) (post (subT n (v + 1) b f) M) m1 o1 S1 (by omega) (by omega) hb2 c1 p1 l1
    obtain ⟨N2, n2, c2, s2, _⟩ := post_facts c1 (subT n (v + 1) (b + 2 ^ v) f)
    have hz2 := parts_len h7 c2 p2
    generalize hu0 : subT n (v + 1) b f = u0 at *
    generalize hu1 : subT n (v + 1) (b + 2 ^ v) f = u1 at *
    rw [hstep]
    have hc0 : code (post u0 M) u0 = code (post u1 (post u0 M)) u0 := by rw [n2, code_app N2 s1]
    have s0 : sub (post u1 (post u0 M)) u0 := by rw [n2]; exact sub_app N2 s1
    have hpart : Part n f (mk v u0 u1) := by rw [← hstep]; exact ⟨v, b, hv, hb, rfl⟩
    have hsh := shl1 (n := v) (by omega)
    rw [hc0] at q1
    let P : D → Store → Prop := fun r S' => ∃ m' o', r = .tup [.i .i64 (code (post (mk v u0 u1) M) (mk v u0 u1)), .sl 3 m' ((nds (post (mk v u0 u1) M)).map eNd) o'] ∧ LivC S' m' (post (mk v u0 u1) M).length o' ∧ (∀ s, s ∈ post (mk v u0 u1) M → Part n f s) ∧ Pres S S'
    obtain ⟨r, S', e, m', o', rfl, h⟩ := f53 (eBools nl (tabOf n f)) (.i .i64 n) (.i .i64 v) (.i .i64 b) (.sl 3 m ((nds M).map eNd) o) S P (by
      have w1 : IntKind.i64.wrap ((v : Int) + 1) = ((v + 1 : Nat) : Int) := wrapS (by unfold Bd; omega)
      have w2 : IntKind.i64.wrap ((b : Int) + ((2 ^ v : Nat) : Int)) = ((b + 2 ^ v : Nat) : Int) := by
        generalize 2 ^ v = p at *
        rw [wrap64 ⟨by omega, by omega⟩]; omega
      simp [-Int.natCast_pow, -Int.natCast_add, s53, e93, w1, q1, hsh, w2, q2, bldV]
      by_cases e01 : u0 = u1
      · subst e01
        simp
        have hpm : post (mk v u0 u0) M = post u0 (post u0 M) := post_mk_eq hM v u0
        have hmk : mk v u0 u0 = u0 := by simp [mk]
        refine ⟨m2, o2, ?_, by rw [hpm]; exact l2, by rw [hpm]; exact p2, r1.trans r2⟩
        rw [hpm, hmk]
      · have hne : ¬ code (post u1 (post u0 M)) u0 = code (post u1 (post u0 M)) u1 := fun e => e01 (code_inj s0 s2 e)
        have hmk : mk v u0 u1 = .node v u0 u1 := by simp [mk, e01]
        have hpm : post (mk v u0 u1) M = if T.node v u0 u1 ∈ post u1 (post u0 M) then post u1 (post u0 M) else post u1 (post u0 M) ++ [.node v u0 u1] := by rw [hmk]; exact post_mk_ne hM e01
        simp [hne]
        rw [show [D.i .i64 (v : Int), .i .i64 (code (post u1 (post u0 M)) u0), .i .i64 (code (post u1 (post u0 M)) u1)] = eNd (nd (post u1 (post u0 M)) (.node v u0 u1)) from rfl]
        rw [hmk] at hpart
        have hkid : kids (post u1 (post u0 M)) (.node v u0 u1) := ⟨s0, s2⟩
        have hP : ∀ r S', P r S' = ∃ m' o', r = .tup [.i .i64 (code (post (mk v u0 u1) M) (mk v u0 u1)), .sl 3 m' ((nds (post (mk v u0 u1) M)).map eNd) o'] ∧ LivC S' m' (post (mk v u0 u1) M).length o' ∧ (∀ s, s ∈ post (mk v u0 u1) M → Part n f s) ∧ Pres S S' := fun _ _ => rfl
        rw [hmk] at hpm
        rw [hmk, hpm] at hP
        clear_value P
        generalize post u1 (post u0 M) = M2 at *
        have hlen : ((nds M2).map eNd).length = M2.length := by rw [List.length_map, nds_len]
        let J : Nat → List D → Store → Prop := fun q fr S' => ∃ k a10 a11 a62, k + q = M2.length ∧ nd M2 (.node v u0 u1) ∉ (nds M2).take k ∧ S' = Ent.box (eNd (nd M2 (.node v u0 u1))) :: S2 ∧
          fr = mkf 81 [(4, .sl 3 m2 ((nds M2).map eNd) o2), (10, a10), (11, a11), (14, .bx S2.length 0), (15, .i .i64 k), (62, a62)]
        refine W_loop J ?_ M2.length _ _ ⟨0, _, _, _, by simp, by simp, rfl, rfl⟩
        rintro q fr S' ⟨j, a10, a11, a62, hj, hnot, rfl, rfl⟩
        rw [← wp_W, e53_0]
        by_cases hjl : j < M2.length
        · obtain ⟨x, hx⟩ : ∃ x, M2[j]? = some x := ⟨_, List.getElem?_eq_getElem (by omega)⟩
          have hxn : (nds M2)[j]? = some (nd M2 x) := by simp [nds, hx]
          have hia : iaD 3 (.sl 3 m2 ((nds M2).map eNd) o2) (.i .i64 (j : Int)) = some (.el (eNd (nd M2 x)) 0) := by simp [iaD, hxn]
          simp [s53_0, nds_len, hjl, hia]
          by_cases e : nd M2 x = nd M2 (.node v u0 u1)
          · have hxm := List.mem_of_getElem? hx
            have hxe := nd_inj (Cl_kids c2 x hxm) hkid e
            subst hxe
            have hcg := code_get c2 hx
            simp [wrap64 (n := (j : Int) + 2) ⟨by omega, by omega⟩]
            rw [hP]
            simp only [hxm, if_true]
            exact ⟨m2, o2, by rw [hcg], l2.push _, p2, (r1.trans r2).trans (Pres.push _ _)⟩
          · simp [e, wrapS (show Bd j by unfold Bd; omega)]
            refine ⟨q - 1, by omega, j + 1, _, _, _, by omega, ?_, rfl, rfl⟩
            rw [take_snoc hxn]
            simp only [List.mem_append, List.mem_singleton, not_or]
            exact ⟨hnot, fun h => e h.symm⟩
        · have hj' : (nds M2).take j = nds M2 := List.take_of_length_le (by rw [nds_len]; omega)
          rw [hj'] at hnot
          have hnm : T.node v u0 u1 ∉ M2 := fun h => hnot ((nds_mem c2 hkid).2 h)
          have hcl : Cl (M2 ++ [.node v u0 u1]) := Cl_snoc.2 ⟨c2, hnm, hkid⟩
          obtain ⟨t, S4, q4, l4, p4⟩ := app_livC (k := 3) (n' := false) (xs := (nds M2).map eNd) (ys := [eNd (nd M2 (.node v u0 u1))]) (o' := .ro) (S := Ent.box (eNd (nd M2 (.node v u0 u1))) :: S2) (by rw [hlen]; exact l2.push _) (by rw [hlen]; simp [maxLenD]; omega) (by simp)
          have hX : (nds M2).map eNd ++ [eNd (nd M2 (.node v u0 u1))] = (nds (M2 ++ [.node v u0 u1])).map eNd := by rw [nds_snoc hcl, List.map_append]; rfl
          rw [hX] at q4
          simp [s53_0, nds_len, hjl, e53_r0, s53_r0, q4, wrap64 (n := (M2.length : Int) + 2) ⟨by omega, by omega⟩]
          rw [hP]
          simp only [hnm, if_false]
          refine ⟨false, .tok t, ?_, .tok l4, ?_, ((r1.trans r2).trans (Pres.push _ _)).trans p4⟩
          · simp only [code]
            rw [pos_new [] hnm]
          · intro s hs
            rcases List.mem_append.1 hs with hs | hs
            · exact p2 s hs
            · rw [List.mem_singleton.1 hs]; exact hpart)
    exact ⟨m', o', S', e, h⟩

theorem v18 (nl nl' : Bool) (ord : List Row) (h7 : ord.length ≤ 7) (f : (Nat → Bool) → Bool) (hd : Dep ord.length 0 f) :
    ∃ m, isoCall (call dp) 18 [eRows nl ord, eBools nl' (tabOf ord.length f)] = some (eT nl m ord (treeOf ord.length f)) := by
  obtain ⟨m, o, S', q, l, _, p⟩ := v53 nl' ord.length h7 f hd ord.length 0 0 [] false .cap0 [Ent.box [.sl 2 true [] .ro, .sl 3 true [] .ro, .i .i64 0]] (by omega) (by omega) (by simp) Cl_nil (by simp) (.inr ⟨rfl, rfl, rfl⟩)
  rw [subT_zero] at q
  have hb := p 0 _ (show sget [Ent.box [.sl 2 true [] .ro, .sl 3 true [] .ro, .i .i64 0]] 0 = some _ from rfl)
  refine ⟨m, ?_⟩
  apply i18 _ _ _ (by simp [noRefL]) (by simp [eT])
  have q' : call dp 53 [eBools nl' (tabOf ord.length f), .i .i64 ord.length, .i .i64 0, .i .i64 0, .sl 3 false [] .cap0] [Ent.box [.sl 2 true [] .ro, .sl 3 true [] .ro, .i .i64 0]] = _ := q
  simp [s18, q', bldV, hb]
  rw [sget_sset _ (sget_lt hb)]
  simp
  rfl

end Go.Proofs.YtjlmeikcfdanmaaGreatDoor.DE.V
