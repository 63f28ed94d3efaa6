/- Joined texts. -/
import Derived.Test.YtjniafcnjbbomaaGreatDoorQx15
set_option linter.all false
namespace Go.Proofs.YtjniafcnjbbomaaGreatDoor.DE
open Go
def kd42:Nat×List D×D:=(27,[.agg [.sl 1 true [] .ro,.sl 1 false [[.i .u32 1]] .ro],P6],.AY [P6,.i .i64 0])
theorem ka42:Kn kd42:=known (kn:=[kd26,kd29,kd32]) 60 (A7 ka26 (A7 ka29 (A7 ka32 AH))) (fun σ=>by kernel_rfl)
def kd43:Nat×List D×D:=(9,[.agg [.sl 2 false [[.i .i64 1,.i .i64 1],[.i .i64 1,.i .i64 2]] .ro,.sl 3 false [[.i .i64 1,.i .i64 0,.i .i64 1],[.i .i64 0,.i .i64 0,.i .i64 2]] .ro,.i .i64 3],awL],.AY [P6,.i .i64 0])
theorem ka43:Kn kd43:=known (kn:=[fG,kd19,kd23,kd25,kd27,kd28,kd30,kd41,kd42]) 60 (A7 nY (A7 ka19 (A7 ka23 (A7 ka25 (A7 ka27 (A7 ka28 (A7 ka30 (A7 ka41 (A7 ka42 AH))))))))) (fun σ=>by kernel_rfl)
def kd44:Nat×List D×D:=(21,[awP,.i .i64 9,awL],.AY [P6,.i .i64 0])
theorem ka44:Kn kd44:=known (kn:=[fG,kd37,kd39,kd43]) 60 (A7 nY (A7 ka37 (A7 ka39 (A7 ka43 AH)))) (fun σ=>by kernel_rfl)
def kd45:Nat×List D×D:=(71,[.sl 1 false [[.i .u32 1]] .ro,.sl 1 false [[.i .u32 1]] .ro],.AY [Ld,.i .i64 0])
theorem ka45:Kn kd45:=known (kn:=[]) 60 AH (fun σ=>by kernel_rfl)
def kd46:Nat×List D×D:=(27,[awZ,Ld],.AY [Ld,.i .i64 0])
theorem ka46:Kn kd46:=known (kn:=[lT,mE,kd45]) 60 (A7 sc (A7 pq (A7 ka45 AH))) (fun σ=>by kernel_rfl)
def kd47:Nat×List D×D:=(36,[awS,.i .i64 0,awL],.AY [awZ,Ld,.i .i64 0])
theorem ka47:Kn kd47:=known (kn:=[fG,wv,lx,kd46]) 60 (A7 nY (A7 zr (A7 ql (A7 ka46 AH)))) (fun σ=>by kernel_rfl)
def oA:Nat×List D×D:=(62,[.sl 2 true [] .ro],.b true)
theorem pz:Kn oA:=known (kn:=[]) 60 AH (fun σ=>by kernel_rfl)
def fK:Nat×List D×D:=(62,[yC],.b true)
theorem mL:Kn fK:=known (kn:=[]) 60 AH (fun σ=>by kernel_rfl)
def kd50:Nat×List D×D:=(20,[yC,.sl 2 true [] .ro],.AY [.sl 2 true [] .ro,.i .i64 0])
theorem ka50:Kn kd50:=known (kn:=[oA,fK]) 60 (A7 pz (A7 mL AH)) (fun σ=>by kernel_rfl)
def kd51:Nat×List D×D:=(34,[.sl 2 true [] .ro,.sl 2 true [] .ro],.AY [.sl 2 true [] .ro,.i .i64 0])
theorem ka51:Kn kd51:=known (kn:=[oA]) 60 (A7 pz AH) (fun σ=>by kernel_rfl)
def kd52:Nat×List D×D:=(20,[yC,rh],.AY [rh,.i .i64 0])
theorem ka52:Kn kd52:=known (kn:=[kd7,fK]) 60 (A7 ka7 (A7 mL AH)) (fun σ=>by kernel_rfl)
def kd53:Nat×List D×D:=(34,[.sl 2 true [] .ro,rh],.AY [rh,.i .i64 0])
theorem ka53:Kn kd53:=known (kn:=[kd7,oA]) 60 (A7 ka7 (A7 pz AH)) (fun σ=>by kernel_rfl)
def kd54:Nat×List D×D:=(153,[awS,.sl 3 false [[.i .i64 1,.i .i64 1,.sl 2 true [] .ro]] .ro],.AY [rh,.i .i64 0])
theorem ka54:Kn kd54:=known (kn:=[kd5,lx,oA,kd50,kd51,kd52,kd53]) 60 (A7 ka5 (A7 ql (A7 pz (A7 ka50 (A7 ka51 (A7 ka52 (A7 ka53 AH))))))) (fun σ=>by kernel_rfl)
def kd55:Nat×List D×D:=(29,[Ld,Gr],.AY [Gr,.i .i64 0])
theorem ka55:Kn kd55:=known (kn:=[kd0,Qq,mE]) 60 (A7 ka0 (A7 TU (A7 pq AH))) (fun σ=>by kernel_rfl)
end Go.Proofs.YtjniafcnjbbomaaGreatDoor.DE
