/-
  THE LAW BddValid ON DATA.
-/
import Derived.Test.YtjlmeikcfdanmaaGreatDoorVe
import Derived.Test.YtjlmeikcfdanmaaGreatDoorVf
namespace Go.Proofs.YtjlmeikcfdanmaaGreatDoor.DE.V
open Go BT


open Classical in
theorem law5 (n1 n1' : Bool) (o1 : List Row) (m1 : List Nd) (r1 : Int) (n2 n2' : Bool) (o2 : List Row) (m2 : List Nd) (r2 : Int) (h1 : n1 = true → o1 = []) (_ : n1' = true → m1 = []) (_ : ∀ a ∈ o1, okRow a) (_ : ∀ a ∈ m1, okNd64 a) (_ : in64 r1)
    (_ : n2 = true → o2 = []) (_ : n2' = true → m2 = []) (_ : ∀ a ∈ o2, okRow a) (_ : ∀ a ∈ m2, okNd64 a) (_ : in64 r2) :
    ∃ S', call dp 5 [eB n1 n1' o1 m1 r1, eB n2 n2' o2 m2 r2] [] = some (.b true, S') := by
  obtain ⟨r, S', e, rfl⟩ := f5 (eB n1 n1' o1 m1 r1) (eB n2 n2' o2 m2 r2) [] (fun d _ => d = .b true) (by
    have a1 := v11 n1 n1' o1 m1 r1
    have a2 := v11 n2 n2' o2 m2 r2
    simp only [eB] at a1 a2
    simp [s5, v10, a1, a2]
    intro b1 c1 b2 c2
    have hb1 : Bd (m1.length + 2) := by unfold Bd; omega
    have hb1' : Bd o1.length := by unfold Bd; omega
    have hb2 : Bd m2.length := by unfold Bd; omega
    have hb2' : Bd o2.length := by unfold Bd; omega
    have e24 := v24 n1 n1' o1 m1 r1 hb1 hb1'
    have e33 := v33 n1 n1' o1 m1 r1 h1 hb1 hb1'
    have e34 := v34 n1 n1' n1 n1' o1 o1 m1 m1 r1 r1 h1 hb1 hb1' (by unfold Bd; omega) hb1'
    have e34' := v34 n1 n1' n2 n2' o1 o2 m1 m2 r1 r2 h1 hb1 hb1' hb2 hb2'
    have e17 := v17 n1 n1' n2 n2' o1 o2 m1 m2 r1 r2 hb2 hb2'
    simp only [eB] at e24 e33 e34 e34' e17
    simp [e24, e33, e34, e34', e17]
    by_cases g1 : VB o1 m1 r1 <;> by_cases g2 : r1 = r2 <;> by_cases g3 : o1 = o2 <;> by_cases g4 : m1 = m2 <;> simp_all)
  exact ⟨S', e⟩

end Go.Proofs.YtjlmeikcfdanmaaGreatDoor.DE.V
