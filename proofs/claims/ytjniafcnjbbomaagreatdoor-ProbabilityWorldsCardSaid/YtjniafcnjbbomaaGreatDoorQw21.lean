/-
  SEVERAL TEXTS IN ONE (joined by tools/asm3.py of this repository): Hx.
-/
import Derived.Test.YtjniafcnjbbomaaGreatDoorQw20
set_option linter.unusedVariables false
set_option linter.unusedSimpArgs false
namespace Go.Proofs.YtjniafcnjbbomaaGreatDoor
open Go.ChangeShapes Go.WideShapes Go.ChangeAt Go.RowKit
set_option maxRecDepth 100000

theorem pw_wf : Rows.probabilityWorldsRow.wf (OpenSpec.ofChange Rows.probabilityWorldsSpec) = true := by kernel_rfl
theorem pw_rowed : mapsRowed Tryz.prog = true := by kernel_rfl
theorem pw_inPlace : (Rows.probabilityWorldsRow.inPlace == Tryz.prog.inPlace 4) = true := by kernel_rfl
theorem pw_unfollowed : (Rows.probabilityWorldsRow.unfollowed == Tryz.prog.unfollowed 4) = true := by kernel_rfl
theorem pw_recurses : (Rows.probabilityWorldsRow.recurses == Tryz.prog.recurses 4) = true := by kernel_rfl
theorem pw_named : (Rows.probabilityWorldsRow.named == Tryz.prog.varsNamed 4) = true := by kernel_rfl
theorem pw_heard : Tryz.prog.stopsHeard = true := by kernel_rfl
theorem pw_enter : Tryz.prog.mayEnter = true := by kernel_rfl
theorem pw_lifted : (Rows.probabilityWorldsRow.lifted == Tryz.prog.liftsFinal) = true := by kernel_rfl
theorem pw_make : (Tryz.prog.make == some Rows.probabilityWorldsRow.make) = true := by kernel_rfl

theorem probabilityWorlds_closed : joinedFacts Tryz.prog 4 Tryz.f4 Rows.probabilityWorldsSpec Rows.probabilityWorldsRow = true := by
  unfold joinedFacts
  simp only [pw_wf, Tryz.laidOut, pw_rowed, pw_inPlace, pw_unfollowed, pw_recurses, pw_named, pw_heard, pw_enter, pw_lifted, pw_make, Bool.true_and, Bool.and_true]
  kernel_rfl
theorem probabilityWorlds_funcNamed : Tryz.pinned.checked.prog.funcNamed Rows.probabilityWorldsRow.func = some 4 := by kernel_rfl
theorem probabilityWorlds_inst : Tryz.f4.isInstance Tryz.pinned.checked.prog Rows.probabilityWorldsRow.origin Rows.probabilityWorldsRow.targs := of_decide_eq_true (by kernel_rfl)
theorem probabilityWorlds_wrapper : Tryz.f4.isWrapper Tryz.pinned.checked.prog Rows.probabilityWorldsRow.wrapper Rows.probabilityWorldsRow.mainSum := by
  unfold Func.isWrapper; first | (rw [if_pos (by decide +kernel)]; kernel_rfl) | (rw [if_neg (by decide +kernel)]; exact ⟨rfl, rfl⟩)

theorem probabilityWorlds_holds : Rows.ProbabilityWorldsSaid :=
  Go.Clock.holds_of_wide_time 4 Tryz.f4 rfl rfl rfl rfl rfl rfl rfl ⟨rfl, rfl, rfl, rfl, rfl⟩ rfl rfl rfl rfl rfl probabilityWorlds_funcNamed Tryz.func4 probabilityWorlds_closed
    probabilityWorlds_inst probabilityWorlds_wrapper
    (fun os started H enc _ F => probabilityWorlds_lifted os started H enc F)

end Go.Proofs.YtjniafcnjbbomaaGreatDoor
