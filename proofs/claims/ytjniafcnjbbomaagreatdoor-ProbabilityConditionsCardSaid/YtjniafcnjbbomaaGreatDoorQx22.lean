/-
  THE LAW ProbabilityConditions: for all annotations and chances the law returns true, and the arguments read as before. The row assumes calm, and allows that time passes. Here: the tied card.
-/
import Derived.Test.YtjniafcnjbbomaaGreatDoorQx21
set_option linter.all false
namespace Go.Proofs.YtjniafcnjbbomaaGreatDoor
section
open Go.ChangeShapes Go.WideShapes Go.ChangeAt Go.RowKit
set_option maxRecDepth 100000

theorem pc_byText : Rows.probabilityConditionsRow.wfByText (OpenSpec.ofChange Rows.probabilityConditionsSpec) = true := by kernel_rfl
theorem pc_main : Tryz.pinned.checked.prog.mainIs = some (true, "a631782b6f89cca244af43153f42396199b3078d69217965cd228c28327e4a79".toList) := by kernel_rfl
theorem pc_fn : Tryz.prog.funcNamed "lineage/lineagelaw12.ProbabilityConditions" = some 6 := by kernel_rfl
theorem pc_looks : false = Tryz.pinned.checked.prog.looks [] := by kernel_rfl
theorem pc_stand : ([49, 49, 26].all fun u => !Tryz.prog.wantsStandIn u) = true := by kernel_rfl
theorem pc_goes : false = Rows.probabilityConditionsRow.goesBy Tryz.pinned.checked.prog := by kernel_rfl

/-- The tied card of the law ProbabilityConditions. -/
theorem probabilityConditions_card_holds : Rows.ProbabilityConditionsCardSaid :=
  Claim7.holds_tied_plain_at .later [] [.data, .data, .data, .data, .pinned] true (true, "a631782b6f89cca244af43153f42396199b3078d69217965cd228c28327e4a79") false probabilityConditions_holds (fun _ h => by cases h) pc_byText (fun _ h => by cases h) probabilityConditions_row_tie rfl ⟨rfl, rfl⟩ pc_main rfl
    (fun f fn hf hfn => by
      obtain rfl : f = 6 := Option.some.inj (pc_fn.symm.trans hf) |>.symm
      obtain rfl : fn = Tryz.f6 := (Option.some.inj (Tryz.func6.symm.trans hfn)).symm
      exact ⟨pc_looks, fun j t ht => by
        rw [Tryz.params6] at ht
        have hm : t ∈ [49, 49, 26] := by simpa using Array.mem_of_getElem? ht
        exact (show Tryz.prog.wantsStandIn t = false by simpa using List.all_eq_true.1 pc_stand t hm)⟩)
    pc_goes
#print axioms probabilityConditions_card_holds
end
end Go.Proofs.YtjniafcnjbbomaaGreatDoor
