/-
  WHAT THE FUNCTIONS ANSWER: validity and equality of diagrams.
-/
import Derived.Test.YtjlmeikcfdanmaaGreatDoorVd
namespace Go.Proofs.YtjlmeikcfdanmaaGreatDoor.DE.V
open Go BT


open Classical in
theorem v33 (nl nl' : Bool) (ord : List Row) (ns : List Nd) (root : Int) (hn : nl = true → ord = []) (hb : Bd (ns.length + 2)) (hb' : Bd ord.length) :
    isoCall (call dp) 33 [eB nl nl' ord ns root] = some (.b (decide (VB ord ns root))) := by
  obtain ⟨c, hc⟩ : ∃ c, c = decide (VB ord ns root) := ⟨_, rfl⟩
  rw [← hc]
  have hf : ∀ P : Prop, (VB ord ns root → P) → ¬ P → c = false := fun P h1 h2 => by rw [hc]; exact decide_eq_false fun h => h2 (h1 h)
  have e71 := v71 nl nl' ord ns root hb
  simp only [eB] at e71
  apply i33 _ _ (by simp [noRefL]) rfl
  simp [s33, v48 _ _ hb', e71]
  by_cases h1 : OrdOk ord ∧ ord.length ≤ 4096
  case neg =>
    have := hf _ (fun h => h.1) h1
    simp [this]
    intro q1 q2
    exact absurd ⟨q1, q2⟩ h1
  by_cases h2 : ns.length ≤ 4096
  case neg =>
    have := hf _ (fun h => h.2.1) h2
    simp [h1, this]
    intro q1; exact absurd (show ns.length ≤ 4096 by omega) h2
  have f2 : ¬ (4096 : Int) < ns.length := by omega
  by_cases h3 : Sh ord.length ns ∧ 0 ≤ root ∧ root < ns.length + 2
  case neg =>
    have := hf _ (fun h => h.2.2.1) h3
    simp [h1, f2, this]
    intro q1 q2 q3; exact absurd ⟨q1, q2, q3⟩ h3
  obtain ⟨ho, h4, h5⟩ := h3
  obtain ⟨L, hL, e, hw⟩ := Sh_trees ho
  subst e
  rw [nds_len] at *
  obtain ⟨t, ht, rfl, _⟩ := code_all hL h4 h5
  have hcan : VB ord (nds L) (code L t) ↔ post t [] = L := by
    rw [← Cano_iff hL ht]
    exact ⟨fun h => h.2.2.2, fun h => ⟨h1, by rw [nds_len]; exact h2, ⟨ho, h4, by rw [nds_len]; exact h5⟩, h⟩⟩
  have hc' : c = true ↔ post t [] = L := by rw [hc, decide_eq_true_iff]; exact hcan
  obtain ⟨n, _, e72⟩ := v72 nl nl' ord hL (by omega) t ht hn (by simp [maxLenD]; omega)
  simp [h1, f2, ho, h4, h5, e72, v73 n nl' (nds (post t [])) (nds L) (by rw [nds_len]; unfold Bd at *; omega)]
  obtain ⟨pc, ps, _⟩ := post_in hL Cl_nil (by simp) ht
  by_cases e : post t [] = L
  · simp [e, hc'.2 e]
  · have hcf : c = false := by rw [← Bool.not_eq_true, hc']; exact e
    have : ¬ nds (post t []) = nds L := fun h => e (nds_inj pc hL h)
    simp [this, hcf]

open Classical in
theorem v34 (nl nl' n2 n2' : Bool) (ord o2 : List Row) (ns m2 : List Nd) (root r2 : Int) (hn : nl = true → ord = []) (hb : Bd (ns.length + 2)) (hb' : Bd ord.length) (hb2 : Bd m2.length) (hb2' : Bd o2.length) :
    isoCall (call dp) 34 [eB nl nl' ord ns root, eB n2 n2' o2 m2 r2] = some (.b (decide (VB ord ns root ∧ root = r2 ∧ ord = o2 ∧ ns = m2))) := by
  obtain ⟨c, hc⟩ : ∃ c, c = decide (VB ord ns root ∧ root = r2 ∧ ord = o2 ∧ ns = m2) := ⟨_, rfl⟩
  rw [← hc]
  have e33 := v33 nl nl' ord ns root hn hb hb'
  simp only [eB] at e33
  apply i34 _ _ _ (by simp [noRefL]) rfl
  simp [s34, e33, v74 _ _ _ _ hb2', v73 _ _ _ _ hb2]
  by_cases h1 : VB ord ns root <;> by_cases h2 : root = r2 <;> by_cases h3 : ord = o2 <;> by_cases h4 : ns = m2 <;> simp_all

end Go.Proofs.YtjlmeikcfdanmaaGreatDoor.DE.V
