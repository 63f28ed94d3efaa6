/-
  THE LAW ProbabilityDiagrams: for every diagram and all chances the law returns true, and the arguments read as before. Here: the tied card.
-/
import Derived.Test.YtjniafcnjbbomaaGreatDoorQd21
set_option linter.unusedVariables false
set_option linter.unusedSimpArgs false
namespace Go.Proofs.YtjniafcnjbbomaaGreatDoor
open Go.ChangeShapes Go.WideShapes Go.ChangeAt Go.RowKit
set_option maxRecDepth 100000

theorem pd_byText : Rows.probabilityDiagramsRow.wfByText (OpenSpec.ofChange Rows.probabilityDiagramsSpec) = true := by kernel_rfl
theorem pd_main : Tryz.pinned.checked.prog.mainIs = some (true, "a631782b6f89cca244af43153f42396199b3078d69217965cd228c28327e4a79".toList) := by kernel_rfl
theorem pd_fn : Tryz.prog.funcNamed "lineage/lineagelaw12.ProbabilityDiagrams" = some 3 := by kernel_rfl
theorem pd_looks : false = Tryz.pinned.checked.prog.looks [] := by kernel_rfl
theorem pd_stand : ([25, 26].all fun u => !Tryz.prog.wantsStandIn u) = true := by kernel_rfl
theorem pd_goes : false = Rows.probabilityDiagramsRow.goesBy Tryz.pinned.checked.prog := by kernel_rfl

/-- The tied card of the law ProbabilityDiagrams. -/
theorem probabilityDiagrams_card_holds : Rows.ProbabilityDiagramsCardSaid :=
  Claim7.holds_tied_plain_at .later [] [.data, .data, .data, .data, .pinned] true (true, "a631782b6f89cca244af43153f42396199b3078d69217965cd228c28327e4a79") false probabilityDiagrams_holds (fun _ h => by cases h) pd_byText (fun _ h => by cases h) probabilityDiagrams_row_tie rfl ⟨rfl, rfl⟩ pd_main rfl
    (fun f fn hf hfn => by
      obtain rfl : f = 3 := Option.some.inj (pd_fn.symm.trans hf) |>.symm
      obtain rfl : fn = Tryz.f3 := (Option.some.inj (Tryz.func3.symm.trans hfn)).symm
      exact ⟨pd_looks, fun j t ht => by
        rw [Tryz.params3] at ht
        have hm : t ∈ [25, 26] := by simpa using Array.mem_of_getElem? ht
        exact (show Tryz.prog.wantsStandIn t = false by simpa using List.all_eq_true.1 pd_stand t hm)⟩)
    pd_goes
#print axioms probabilityDiagrams_card_holds
end Go.Proofs.YtjniafcnjbbomaaGreatDoor
