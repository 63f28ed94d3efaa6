/-
  WHAT THE FUNCTIONS ANSWER: the reference's validity.
-/
import Derived.Test.YtjlmeikcfdanmaaGreatDoorVb
namespace Go.Proofs.YtjlmeikcfdanmaaGreatDoor.DE.V
open Go BT


/-- A valid diagram. -/
def VB (ord : List Row) (ns : List Nd) (root : Int) : Prop :=
  (OrdOk ord ∧ ord.length ≤ 4096) ∧ ns.length ≤ 4096 ∧ (Sh ord.length ns ∧ 0 ≤ root ∧ root < ns.length + 2) ∧ ∃ t, Cano ns root t

theorem okNd_of {n : Nat} {ns : List Nd} {k : Nat} {x : Nd} (hx : ns[k]? = some x) (h : Sh n ns) : okNd n (ns.take k) x :=
  (Sh_snoc.1 (take_snoc hx ▸ Sh_take (k + 1) h)).2

open Classical in
theorem v24 (nl nl' : Bool) (ord : List Row) (ns : List Nd) (root : Int) (hb : Bd (ns.length + 2)) (hb' : Bd ord.length) :
    isoCall (call dp) 24 [eB nl nl' ord ns root] = some (.b (decide (VB ord ns root))) := by
  obtain ⟨c, hc⟩ : ∃ c, c = decide (VB ord ns root) := ⟨_, rfl⟩
  rw [← hc]
  apply i24 _ _ (by simp [noRefL]) rfl
  simp [s24, v16 _ _ hb']
  have hbn : (ns.length : Int) + 2 ≤ 4611686018427387904 := by unfold Bd at hb; omega
  rw [wrap64 ⟨by omega, by omega⟩]
  have hf : ∀ P : Prop, (VB ord ns root → P) → ¬ P → c = false := fun P h1 h2 => by rw [hc]; exact decide_eq_false fun h => h2 (h1 h)
  by_cases h1 : OrdOk ord ∧ ord.length ≤ 4096
  case neg =>
    have := hf _ (fun h => h.1) h1
    have h1' : OrdOk ord → 4096 < ord.length := fun h => Nat.lt_of_not_le fun k => h1 ⟨h, k⟩
    simp [this]
    intro q1 q2
    exact absurd ⟨q1, q2⟩ h1
  by_cases h2 : ns.length ≤ 4096
  case neg =>
    have := hf _ (fun h => h.2.1) h2
    simp [h1, this]
    intro q1; exact absurd (show ns.length ≤ 4096 by omega) h2
  by_cases h3 : 0 ≤ root
  case neg =>
    have := hf _ (fun h => h.2.2.1.2.1) h3
    simp [h1, this]
    intro q1 q2; exact absurd q2 h3
  by_cases h4 : root < ns.length + 2
  case neg =>
    have := hf _ (fun h => h.2.2.1.2.2) h4
    simp [h1, this]
    intro q1 q2 q3; exact absurd q3 h4
  have f2 : ¬ (4096 : Int) < ns.length := by omega
  have f3 : ¬ root < 0 := by omega
  have f4 : ¬ (ns.length : Int) + 2 ≤ root := by omega
  simp [h1, f2, f3, f4]
  let J : Nat → List D → Store → Prop := fun q fr S => ∃ k a2 a4 a5 a6 a7 a36 a104 a121, k + q = ns.length ∧ Sh ord.length (ns.take k) ∧ sget S 0 = some (.box [eRows nl ord, eNds nl' ns, .i .i64 root]) ∧
    fr = mkf 137 [(1, .bx 0 0), (2, a2), (3, .i .i64 k), (4, a4), (5, a5), (6, a6), (7, a7), (36, a36), (104, a104), (121, a121)]
  refine W_loop J ?_ ns.length _ _ ⟨0, _, _, _, _, _, _, _, _, by simp, by simp [Sh_nil], by simp, rfl⟩
  rintro q fr S ⟨k, a2, a4, a5, a6, a7, a36, a104, a121, hk, ho, hS0, rfl⟩
  rw [← wp_W, e24_2]
  simp [s24_2, hS0]
  by_cases hkl : k < ns.length
  case pos =>
    obtain ⟨x, hx⟩ : ∃ x, ns[k]? = some x := ⟨_, List.getElem?_eq_getElem (by omega)⟩
    have ht := take_snoc hx
    have hlt := sget_lt hS0
    have h0ne : ¬ 0 = S.length := by omega
    have w2 : IntKind.i64.wrap ((k : Int) + 2) = k + 2 := wrap64 ⟨by omega, by omega⟩
    have hl : (ns.take k).length = k := by rw [List.length_take]; omega
    have hok : VB ord ns root → okNd ord.length (ns.take k) x := fun hs => okNd_of hx hs.2.2.1.1
    simp [hkl, iaD_nds _ hx, w2, hS0, h0ne]
    by_cases hin : (0 ≤ x.1 ∧ x.1 < ord.length) ∧ (0 ≤ x.2.1 ∧ 0 ≤ x.2.2 ∧ x.2.1 < k + 2 ∧ x.2.2 < k + 2) ∧ x.2.1 ≠ x.2.2
    case neg =>
      have := hf _ hok (fun h => hin ⟨h.1, by have := h.2.1; rw [hl] at this; omega, h.2.2.1⟩)
      simp [this]
      intro g1 g2 g3 g4 g5 g6 g7
      exact absurd ⟨⟨g1, g2⟩, ⟨g3, g4, g5, g6⟩, g7⟩ hin
    obtain ⟨⟨c1, c2⟩, ⟨i1, i2, i3, i4⟩, c3⟩ := hin
    have f1 : ¬ x.1 < 0 := by omega
    have f2 : ¬ (ord.length : Int) ≤ x.1 := by omega
    have f3 : ¬ x.2.1 < 0 := by omega
    have f4 : ¬ x.2.2 < 0 := by omega
    have f5 : ¬ (k : Int) + 2 ≤ x.2.1 := by omega
    have f6 : ¬ (k : Int) + 2 ≤ x.2.2 := by omega
    have e1 := v56 nl nl' ord ns root x.2.1 ⟨by omega, by omega⟩ (by omega)
    have e2 := v56 nl nl' ord ns root x.2.2 ⟨by omega, by omega⟩ (by omega)
    rw [← lev_take i3 (by omega)] at e1
    rw [← lev_take i4 (by omega)] at e2
    simp only [eB] at e1 e2
    simp [f1, f2, f3, f4, f5, f6, c3, e1, e2]
    by_cases hlv : x.1 < lev ord.length (ns.take k) x.2.1 ∧ x.1 < lev ord.length (ns.take k) x.2.2
    case neg =>
      have := hf _ hok (fun h => hlv h.2.2.2.1)
      simp [this]
      intro g1 g2
      exact absurd ⟨g1, g2⟩ hlv
    have f7 : ¬ lev ord.length (ns.take k) x.2.1 ≤ x.1 := by omega
    have f8 : ¬ lev ord.length (ns.take k) x.2.2 ≤ x.1 := by omega
    simp [f7, f8]
    let J2 : Nat → List D → Store → Prop := fun q fr S' => ∃ j a104, j + q = k ∧ x ∉ ns.take j ∧ S' = Ent.box (eNd x) :: S ∧
      fr = mkf 137 [(1, .bx 0 0), (2, a2), (3, .i .i64 k), (4, .bx S.length 0), (5, .i .i64 j), (6, a6), (7, a7), (36, .top), (104, a104), (121, a121)]
    refine W_loop J2 ?_ k _ _ ⟨0, _, by simp, by simp, rfl, rfl⟩
    rintro q' fr S' ⟨j, a104, hj, hn, rfl, rfl⟩
    rw [← wp_W, e24_1]
    simp [s24_1, hS0, h0ne]
    by_cases hjk : j < k
    case pos =>
      obtain ⟨y, hy⟩ : ∃ x, ns[j]? = some x := ⟨_, List.getElem?_eq_getElem (by omega)⟩
      simp [hjk, iaD_nds _ hy]
      by_cases e : y = x
      · have hy' : (ns.take k)[j]? = some y := by rw [List.getElem?_take, if_pos hjk]; exact hy
        have := hf _ hok (fun h => h.2.2.2.2 (e ▸ List.mem_of_getElem? hy'))
        simp [e, this]
      · simp [e, wrapS (show Bd j by unfold Bd; omega)]
        refine ⟨q' - 1, by omega, j + 1, _, by omega, ?_, rfl, rfl⟩
        rw [take_snoc hy]
        simp [hn]
        exact fun h => e h.symm
    case neg =>
      have : j = k := by omega
      subst this
      simp [e24_r0, s24_r0, wrapS (show Bd j by unfold Bd; omega)]
      refine ⟨q - 1, by omega, j + 1, _, _, _, _, _, _, _, _, by omega, ?_, sget_push hS0, rfl⟩
      rw [ht, Sh_snoc]
      exact ⟨ho, ⟨c1, c2⟩, by rw [hl]; exact ⟨⟨i1, i3⟩, ⟨i2, i4⟩⟩, c3, hlv, hn⟩
  case neg =>
    have : ns.take k = ns := List.take_of_length_le (by omega)
    rw [this] at ho
    obtain ⟨L, hL, e, hw⟩ := Sh_trees ho
    subst e
    rw [nds_len] at *
    obtain ⟨t, ht, rfl, _⟩ := code_all hL h3 h4
    have hcan : VB ord (nds L) (code L t) ↔ post t [] = L := by
      rw [← Cano_iff hL ht]
      exact ⟨fun h => h.2.2.2, fun h => ⟨h1, by rw [nds_len]; exact h2, ⟨ho, h3, by rw [nds_len]; exact h4⟩, h⟩⟩
    have hc' : c = true ↔ post t [] = L := by rw [hc, decide_eq_true_iff]; exact hcan
    obtain ⟨n1, o1, S1, q1, l1, p1⟩ := v57 nl nl' ord (code L t) hL h2 t [] true .ro S ht Cl_nil (by simp) (.inl ⟨rfl, rfl, rfl⟩)
    obtain ⟨pc, ps, pm, pl⟩ := post_in hL Cl_nil (by simp) ht
    have hS1 := p1 _ _ hS0
    rw [show eInts true ([].map (code L)) .ro = D.sl 1 true [] .ro from rfl] at q1
    simp only [eB] at q1
    simp [hkl, e24_r2, s24_r2, hS0, q1]
    let J3 : Nat → List D → Store → Prop := fun q fr S' => ∃ k a121, k + q = (post t []).length ∧ (post t []).take k = L.take k ∧ S' = S1 ∧
      fr = mkf 137 [(1, .bx 0 0), (2, a2), (3, .top), (4, a4), (5, a5), (6, eInts n1 ((post t []).map (code L)) o1), (7, .i .i64 k), (36, .top), (104, a104), (121, a121)]
    refine W_loop J3 ?_ (post t []).length _ _ ⟨0, _, by simp, by simp, rfl, rfl⟩
    rintro q' fr S' ⟨j, a121, hj, hn, rfl, rfl⟩
    rw [← wp_W, e24_0]
    simp [s24_0]
    by_cases hjl : j < (post t []).length
    case pos =>
      obtain ⟨x, hx⟩ : ∃ x, (post t [])[j]? = some x := ⟨_, List.getElem?_eq_getElem (by omega)⟩
      obtain ⟨y, hy⟩ : ∃ x, L[j]? = some x := ⟨_, List.getElem?_eq_getElem (by omega)⟩
      have hcy := code_get hL hy
      have hxm := pm x (List.mem_of_getElem? hx)
      have sub_of : ∀ x, x ∈ L → sub L x := by
        intro x hx
        have := Cl_kids hL x hx
        revert this hx
        cases x with
        | leaf _ => exact fun _ h => h.elim
        | node _ _ _ => exact fun h _ => h
      have hia := eInts_cells ((post t []).map (code L)) j (n := code L x) (by simp [hx]) n1 o1
      simp [hjl, hia, wrap64 (n := (j : Int) + 2) ⟨by omega, by omega⟩]
      by_cases e : x = y
      · subst e
        simp [hcy, wrapS (show Bd j by unfold Bd; omega)]
        exact ⟨q' - 1, by omega, j + 1, _, by omega, take_next hn hx hy, rfl, rfl⟩
      · have hne : ¬ code L x = (j : Int) + 2 := by
          rw [← hcy]
          exact fun h => e (code_inj (sub_of x hxm) (sub_of y (List.mem_of_getElem? hy)) h)
        have : c = false := by
          rw [← Bool.not_eq_true, hc']
          intro h
          rw [h, hy] at hx
          injection hx with hx
          exact e hx.symm
        simp [hne, this]
    case neg =>
      simp [hjl, e24_r1, s24_r1, hS1]
      have hj' : (post t []).take j = post t [] := List.take_of_length_le (by omega)
      rw [hj'] at hn
      by_cases e : (post t []).length = L.length
      · have : c = true := by rw [hc', hn, List.take_of_length_le (by omega)]
        simp [e, this, nds_len]
      · have : c = false := by
          rw [← Bool.not_eq_true, hc']
          exact fun h => e (by rw [h])
        simp [e, this, nds_len]
        omega

end Go.Proofs.YtjlmeikcfdanmaaGreatDoor.DE.V
