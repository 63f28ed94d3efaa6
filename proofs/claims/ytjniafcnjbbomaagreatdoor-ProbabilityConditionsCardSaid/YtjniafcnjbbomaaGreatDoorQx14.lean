/- Joined texts. -/
import Derived.Test.YtjniafcnjbbomaaGreatDoorQx13
set_option linter.all false
namespace Go.Proofs.YtjniafcnjbbomaaGreatDoor.DE
open Go
def fG:Nat×List D×D:=(14,[awL],.b true)
theorem nY:Kn fG:=known (kn:=[Qq,kd11,di,kd13]) 60 (A7 TU (A7 ka11 (A7 nk (A7 ka13 AH)))) (fun σ=>by kernel_rfl)
def wv:Nat×List D×D:=(68,[awS],.sl 2 false [[.i .i64 1,.i .i64 1],[.i .i64 1,.i .i64 2]] .ro)
theorem zr:Kn wv:=known (kn:=[]) 60 AH (fun σ=>by kernel_rfl)
def lx:Nat×List D×D:=(62,[awS],.b true)
theorem ql:Kn lx:=known (kn:=[]) 60 AH (fun σ=>by kernel_rfl)
def kd17:Nat×List D×D:=(67,[.sl 2 false [[.i .i64 1,.i .i64 1],[.i .i64 1,.i .i64 2]] .ro,awS,.i .i64 9],.AY [.agg [.sl 2 false [[.i .i64 1,.i .i64 1],[.i .i64 1,.i .i64 2]] .ro,.sl 3 false [[.i .i64 1,.i .i64 0,.i .i64 1],[.i .i64 0,.i .i64 2,.i .i64 1]] .ro,.i .i64 3],.i .i64 0])
theorem ka17:Kn kd17:=known (kn:=[wv,lx]) 60 (A7 zr (A7 ql AH)) (fun σ=>by kernel_rfl)
def kd18:Nat×List D×D:=(71,[.sl 1 false [[.i .u32 2]] .ro,.sl 1 false [[.i .u32 3]] .ro],.AY [Om,.i .i64 0])
theorem ka18:Kn kd18:=known (kn:=[]) 60 AH (fun σ=>by kernel_rfl)
def kd19:Nat×List D×D:=(95,[NR],.AY [Om,.i .i64 0])
theorem ka19:Kn kd19:=known (kn:=[di,kd18]) 60 (A7 nk (A7 ka18 AH)) (fun σ=>by kernel_rfl)
def kd20:Nat×List D×D:=(53,[Om],.b true)
theorem ka20:Kn kd20:=known (kn:=[]) 60 AH (fun σ=>by kernel_rfl)
def lT:Nat×List D×D:=(53,[awZ],.b true)
theorem sc:Kn lT:=known (kn:=[]) 60 AH (fun σ=>by kernel_rfl)
def kd22:Nat×List D×D:=(71,[.sl 1 false [] .ro,.sl 1 false [[.i .u32 3]] .ro],.AY [.agg [.sl 1 true [] .ro,.sl 1 false [[.i .u32 1]] .ro],.i .i64 0])
theorem ka22:Kn kd22:=known (kn:=[]) 60 AH (fun σ=>by kernel_rfl)
def kd23:Nat×List D×D:=(29,[Om,awZ],.AY [.agg [.sl 1 true [] .ro,.sl 1 false [[.i .u32 1]] .ro],.i .i64 0])
theorem ka23:Kn kd23:=known (kn:=[kd20,lT,kd22]) 60 (A7 ka20 (A7 sc (A7 ka22 AH))) (fun σ=>by kernel_rfl)
def mE:Nat×List D×D:=(53,[Ld],.b true)
theorem pq:Kn mE:=known (kn:=[]) 60 AH (fun σ=>by kernel_rfl)
def kd25:Nat×List D×D:=(29,[NR,Ld],.AY [NR,.i .i64 0])
theorem ka25:Kn kd25:=known (kn:=[kd2,di,mE]) 60 (A7 ka2 (A7 nk (A7 pq AH))) (fun σ=>by kernel_rfl)
def kd26:Nat×List D×D:=(53,[.agg [.sl 1 true [] .ro,.sl 1 false [[.i .u32 1]] .ro]],.b true)
theorem ka26:Kn kd26:=known (kn:=[]) 60 AH (fun σ=>by kernel_rfl)
def kd27:Nat×List D×D:=(27,[.agg [.sl 1 true [] .ro,.sl 1 false [[.i .u32 1]] .ro],NR],.AY [NR,.i .i64 0])
theorem ka27:Kn kd27:=known (kn:=[kd2,di,kd26]) 60 (A7 ka2 (A7 nk (A7 ka26 AH))) (fun σ=>by kernel_rfl)
end Go.Proofs.YtjniafcnjbbomaaGreatDoor.DE
