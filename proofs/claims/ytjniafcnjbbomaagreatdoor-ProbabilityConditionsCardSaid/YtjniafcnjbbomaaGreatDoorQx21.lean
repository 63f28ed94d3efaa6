/- Joined texts. -/
import Derived.Test.YtjniafcnjbbomaaGreatDoorQx20
set_option linter.all false
namespace Go.Proofs.YtjniafcnjbbomaaGreatDoor
section
open Go.ChangeShapes Go.WideShapes Go.ChangeAt Go.RowKit
set_option maxRecDepth 100000
theorem pc_wf:Rows.probabilityConditionsRow.wf (OpenSpec.ofChange Rows.probabilityConditionsSpec)=true:=by kernel_rfl
theorem rk:mapsRowed Tryz.prog=true:=by kernel_rfl
theorem bz:(Rows.probabilityConditionsRow.inPlace == Tryz.prog.inPlace 6)=true:=by kernel_rfl
theorem UU:(Rows.probabilityConditionsRow.unfollowed == Tryz.prog.unfollowed 6)=true:=by kernel_rfl
theorem aK:(Rows.probabilityConditionsRow.recurses == Tryz.prog.recurses 6)=true:=by kernel_rfl
theorem vf:(Rows.probabilityConditionsRow.named == Tryz.prog.varsNamed 6)=true:=by kernel_rfl
theorem sw:Tryz.prog.stopsHeard=true:=by kernel_rfl
theorem wF:Tryz.prog.mayEnter=true:=by kernel_rfl
theorem mK:(Rows.probabilityConditionsRow.lifted == Tryz.prog.liftsFinal)=true:=by kernel_rfl
theorem AAB:(Tryz.prog.make==some Rows.probabilityConditionsRow.make)=true:=by kernel_rfl
theorem Hp:joinedFacts Tryz.prog 6 Tryz.f6 Rows.probabilityConditionsSpec Rows.probabilityConditionsRow=true:=by
 unfold joinedFacts;simp only[pc_wf,Tryz.laidOut,rk,bz,UU,aK,vf,sw,wF,mK,AAB,Bool.true_and,Bool.and_true]
 kernel_rfl
theorem Gz:Tryz.pinned.checked.prog.funcNamed Rows.probabilityConditionsRow.func=some 6:=by kernel_rfl
theorem Je:Tryz.f6.isInstance Tryz.pinned.checked.prog Rows.probabilityConditionsRow.origin Rows.probabilityConditionsRow.targs:=of_decide_eq_true (by kernel_rfl)
theorem He:Tryz.f6.isWrapper Tryz.pinned.checked.prog Rows.probabilityConditionsRow.wrapper Rows.probabilityConditionsRow.mainSum:=by unfold Func.isWrapper;first|(rw[if_pos (by decide +kernel)];kernel_rfl)|(rw[if_neg (by decide +kernel)];exact⟨rfl,rfl⟩)
theorem probabilityConditions_holds:Rows.ProbabilityConditionsSaid:=
 Go.Clock.holds_of_wide_time 6 Tryz.f6 rfl rfl rfl rfl rfl rfl rfl ⟨rfl,rfl,rfl,rfl,rfl⟩ rfl rfl rfl rfl rfl Gz Tryz.func6 Hp
  Je He
  (fun os started H enc _ F=>Hu os started H enc F)
end
end Go.Proofs.YtjniafcnjbbomaaGreatDoor
