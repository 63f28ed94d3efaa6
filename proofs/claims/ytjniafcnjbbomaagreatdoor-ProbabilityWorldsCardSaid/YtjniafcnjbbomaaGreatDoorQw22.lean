/-
  THE LAW ProbabilityWorlds: for all chances, every row and every world the law returns true, and the arguments read as before. The row assumes calm, and allows that time passes. Here: the tied card.
-/
import Derived.Test.YtjniafcnjbbomaaGreatDoorQw21
set_option linter.unusedVariables false
set_option linter.unusedSimpArgs false
namespace Go.Proofs.YtjniafcnjbbomaaGreatDoor
open Go.ChangeShapes Go.WideShapes Go.ChangeAt Go.RowKit
set_option maxRecDepth 100000

theorem pw_byText : Rows.probabilityWorldsRow.wfByText (OpenSpec.ofChange Rows.probabilityWorldsSpec) = true := by kernel_rfl
theorem pw_main : Tryz.pinned.checked.prog.mainIs = some (true, "a631782b6f89cca244af43153f42396199b3078d69217965cd228c28327e4a79".toList) := by kernel_rfl
theorem pw_fn : Tryz.prog.funcNamed "lineage/lineagelaw12.ProbabilityWorlds" = some 4 := by kernel_rfl
theorem pw_looks : false = Tryz.pinned.checked.prog.looks [] := by kernel_rfl
theorem pw_stand : ([26, 40, 22].all fun u => !Tryz.prog.wantsStandIn u) = true := by kernel_rfl
theorem pw_goes : false = Rows.probabilityWorldsRow.goesBy Tryz.pinned.checked.prog := by kernel_rfl

/-- The tied card of the law ProbabilityWorlds. -/
theorem probabilityWorlds_card_holds : Rows.ProbabilityWorldsCardSaid :=
  Claim7.holds_tied_plain_at .later [] [.data, .data, .data, .data, .pinned] true (true, "a631782b6f89cca244af43153f42396199b3078d69217965cd228c28327e4a79") false probabilityWorlds_holds (fun _ h => by cases h) pw_byText (fun _ h => by cases h) probabilityWorlds_row_tie rfl ⟨rfl, rfl⟩ pw_main rfl
    (fun f fn hf hfn => by
      obtain rfl : f = 4 := Option.some.inj (pw_fn.symm.trans hf) |>.symm
      obtain rfl : fn = Tryz.f4 := (Option.some.inj (Tryz.func4.symm.trans hfn)).symm
      exact ⟨pw_looks, fun j t ht => by
        rw [Tryz.params4] at ht
        have hm : t ∈ [26, 40, 22] := by simpa using Array.mem_of_getElem? ht
        exact (show Tryz.prog.wantsStandIn t = false by simpa using List.all_eq_true.1 pw_stand t hm)⟩)
    pw_goes
#print axioms probabilityWorlds_card_holds
end Go.Proofs.YtjniafcnjbbomaaGreatDoor
