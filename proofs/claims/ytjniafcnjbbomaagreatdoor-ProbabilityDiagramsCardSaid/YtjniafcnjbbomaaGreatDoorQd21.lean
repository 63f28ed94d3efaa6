/-
  SEVERAL TEXTS IN ONE (joined by tools/asm3.py of this repository): He.
-/
import Derived.Test.YtjniafcnjbbomaaGreatDoorQd20
set_option linter.unusedVariables false
set_option linter.unusedSimpArgs false
namespace Go.Proofs.YtjniafcnjbbomaaGreatDoor
open Go.ChangeShapes Go.WideShapes Go.ChangeAt Go.RowKit
set_option maxRecDepth 100000
theorem pd_wf:Rows.probabilityDiagramsRow.wf (OpenSpec.ofChange Rows.probabilityDiagramsSpec)=true:=by kernel_rfl
theorem pd_rowed:mapsRowed Tryz.prog=true:=by kernel_rfl
theorem pd_inPlace:(Rows.probabilityDiagramsRow.inPlace == Tryz.prog.inPlace 3)=true:=by kernel_rfl
theorem pd_unfollowed:(Rows.probabilityDiagramsRow.unfollowed == Tryz.prog.unfollowed 3)=true:=by kernel_rfl
theorem pd_recurses:(Rows.probabilityDiagramsRow.recurses == Tryz.prog.recurses 3)=true:=by kernel_rfl
theorem pd_named:(Rows.probabilityDiagramsRow.named == Tryz.prog.varsNamed 3)=true:=by kernel_rfl
theorem pd_heard:Tryz.prog.stopsHeard=true:=by kernel_rfl
theorem pd_enter:Tryz.prog.mayEnter=true:=by kernel_rfl
theorem pd_lifted:(Rows.probabilityDiagramsRow.lifted == Tryz.prog.liftsFinal)=true:=by kernel_rfl
theorem pd_make:(Tryz.prog.make == some Rows.probabilityDiagramsRow.make)=true:=by kernel_rfl
theorem probabilityDiagrams_closed:joinedFacts Tryz.prog 3 Tryz.f3 Rows.probabilityDiagramsSpec Rows.probabilityDiagramsRow=true:=by
 unfold joinedFacts
 simp only [pd_wf,Tryz.laidOut,pd_rowed,pd_inPlace,pd_unfollowed,pd_recurses,pd_named,pd_heard,pd_enter,pd_lifted,pd_make,Bool.true_and,Bool.and_true]
 kernel_rfl
theorem probabilityDiagrams_funcNamed:Tryz.pinned.checked.prog.funcNamed Rows.probabilityDiagramsRow.func=some 3:=by kernel_rfl
theorem probabilityDiagrams_inst:Tryz.f3.isInstance Tryz.pinned.checked.prog Rows.probabilityDiagramsRow.origin Rows.probabilityDiagramsRow.targs:=of_decide_eq_true (by kernel_rfl)
theorem probabilityDiagrams_wrapper:Tryz.f3.isWrapper Tryz.pinned.checked.prog Rows.probabilityDiagramsRow.wrapper Rows.probabilityDiagramsRow.mainSum:=by
 unfold Func.isWrapper;first | (rw [if_pos (by decide +kernel)];kernel_rfl) | (rw [if_neg (by decide +kernel)];exact ⟨rfl,rfl⟩)
theorem probabilityDiagrams_holds:Rows.ProbabilityDiagramsSaid:=
 OpenClaim.holds_of_wide 3 Tryz.f3 rfl rfl rfl rfl rfl rfl rfl ⟨rfl,rfl,rfl,rfl,rfl⟩ rfl rfl rfl rfl rfl probabilityDiagrams_funcNamed Tryz.func3 probabilityDiagrams_closed
  probabilityDiagrams_inst probabilityDiagrams_wrapper
  (fun os started H enc _=>probabilityDiagrams_lifted os started H enc)
end Go.Proofs.YtjniafcnjbbomaaGreatDoor
