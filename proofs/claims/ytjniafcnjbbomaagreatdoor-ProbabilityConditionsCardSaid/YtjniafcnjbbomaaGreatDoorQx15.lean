/- Joined texts. -/
import Derived.Test.YtjniafcnjbbomaaGreatDoorQx14
set_option linter.all false
namespace Go.Proofs.YtjniafcnjbbomaaGreatDoor.DE
open Go
def kd28:Nat×List D×D:=(95,[Gr],.AY [Gr,.i .i64 0])
theorem ka28:Kn kd28:=known (kn:=[kd0,Qq]) 60 (A7 ka0 (A7 TU AH)) (fun σ=>by kernel_rfl)
def kd29:Nat×List D×D:=(71,[.sl 1 false [[.i .u32 1]] .ro,.sl 1 false [[.i .u32 6]] .ro],.AY [P6,.i .i64 0])
theorem ka29:Kn kd29:=known (kn:=[]) 60 AH (fun σ=>by kernel_rfl)
def kd30:Nat×List D×D:=(29,[Gr,NR],.AY [P6,.i .i64 0])
theorem ka30:Kn kd30:=known (kn:=[Qq,di,kd29]) 60 (A7 TU (A7 nk (A7 ka29 AH))) (fun σ=>by kernel_rfl)
def kd31:Nat×List D×D:=(29,[Gr,Ld],.AY [Gr,.i .i64 0])
theorem ka31:Kn kd31:=known (kn:=[kd0,Qq,mE]) 60 (A7 ka0 (A7 TU (A7 pq AH))) (fun σ=>by kernel_rfl)
def kd32:Nat×List D×D:=(53,[P6],.b true)
theorem ka32:Kn kd32:=known (kn:=[]) 60 AH (fun σ=>by kernel_rfl)
def kd33:Nat×List D×D:=(71,[.sl 1 false [[.i .u32 8]] .ro,.sl 1 false [[.i .u32 12]] .ro],.AY [Om,.i .i64 0])
theorem ka33:Kn kd33:=known (kn:=[]) 60 AH (fun σ=>by kernel_rfl)
def kd34:Nat×List D×D:=(27,[P6,Gr],.AY [Om,.i .i64 0])
theorem ka34:Kn kd34:=known (kn:=[Qq,kd32,kd33]) 60 (A7 TU (A7 ka32 (A7 ka33 AH))) (fun σ=>by kernel_rfl)
def kd35:Nat×List D×D:=(9,[.agg [.sl 2 false [[.i .i64 1,.i .i64 1],[.i .i64 1,.i .i64 2]] .ro,.sl 3 false [[.i .i64 1,.i .i64 0,.i .i64 1],[.i .i64 0,.i .i64 2,.i .i64 1]] .ro,.i .i64 3],awL],.AY [Om,.i .i64 0])
theorem ka35:Kn kd35:=known (kn:=[fG,kd19,kd23,kd25,kd27,kd28,kd30,kd31,kd34]) 60 (A7 nY (A7 ka19 (A7 ka23 (A7 ka25 (A7 ka27 (A7 ka28 (A7 ka30 (A7 ka31 (A7 ka34 AH))))))))) (fun σ=>by kernel_rfl)
def kd36:Nat×List D×D:=(21,[awS,.i .i64 9,awL],.AY [Om,.i .i64 0])
theorem ka36:Kn kd36:=known (kn:=[fG,wv,kd17,kd35]) 60 (A7 nY (A7 zr (A7 ka17 (A7 ka35 AH)))) (fun σ=>by kernel_rfl)
def kd37:Nat×List D×D:=(68,[awP],.sl 2 false [[.i .i64 1,.i .i64 1],[.i .i64 1,.i .i64 2]] .ro)
theorem ka37:Kn kd37:=known (kn:=[]) 60 AH (fun σ=>by kernel_rfl)
def kd38:Nat×List D×D:=(62,[awP],.b true)
theorem ka38:Kn kd38:=known (kn:=[]) 60 AH (fun σ=>by kernel_rfl)
def kd39:Nat×List D×D:=(67,[.sl 2 false [[.i .i64 1,.i .i64 1],[.i .i64 1,.i .i64 2]] .ro,awP,.i .i64 9],.AY [.agg [.sl 2 false [[.i .i64 1,.i .i64 1],[.i .i64 1,.i .i64 2]] .ro,.sl 3 false [[.i .i64 1,.i .i64 0,.i .i64 1],[.i .i64 0,.i .i64 0,.i .i64 2]] .ro,.i .i64 3],.i .i64 0])
theorem ka39:Kn kd39:=known (kn:=[kd37,kd38]) 60 (A7 ka37 (A7 ka38 AH)) (fun σ=>by kernel_rfl)
def kd40:Nat×List D×D:=(71,[.sl 1 false [] .ro,.sl 1 false [[.i .u32 2]] .ro],.AY [.agg [.sl 1 true [] .ro,.sl 1 false [[.i .u32 1]] .ro],.i .i64 0])
theorem ka40:Kn kd40:=known (kn:=[]) 60 AH (fun σ=>by kernel_rfl)
def kd41:Nat×List D×D:=(29,[Gr,awZ],.AY [.agg [.sl 1 true [] .ro,.sl 1 false [[.i .u32 1]] .ro],.i .i64 0])
theorem ka41:Kn kd41:=known (kn:=[Qq,lT,kd40]) 60 (A7 TU (A7 sc (A7 ka40 AH))) (fun σ=>by kernel_rfl)
end Go.Proofs.YtjniafcnjbbomaaGreatDoor.DE
