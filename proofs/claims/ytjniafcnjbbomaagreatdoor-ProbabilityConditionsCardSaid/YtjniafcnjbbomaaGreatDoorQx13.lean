/- Joined texts. -/
import Derived.Test.YtjniafcnjbbomaaGreatDoorQx12
set_option linter.all false
namespace Go.Proofs.YtjniafcnjbbomaaGreatDoor.DE
open Go
def aw1:D:=.sl 2 false [[.i .i64 1,.sl 11 false [[.i .i64 0,.i .i64 1,.i .i64 1,.sl 1 true [] .ro,.i .i64 0,.sl 4 true [] .ro,.i .i64 0,.i .i64 0,.i .i64 0,.s [],.i .i64 1]] .ro]] .ro
def rh:D:=.sl 2 false [[.i .i64 1,.sl 11 false [[.i .i64 0,.i .i64 1,.i .i64 2,.sl 1 true [] .ro,.i .i64 0,.sl 4 true [] .ro,.i .i64 0,.i .i64 0,.i .i64 0,.s [],.i .i64 1]] .ro]] .ro
def awS:D:=.sl 2 false [[.i .i64 1,.sl 11 false [[.i .i64 0,.i .i64 1,.i .i64 1,.sl 1 true [] .ro,.i .i64 0,.sl 4 true [] .ro,.i .i64 0,.i .i64 0,.i .i64 0,.s [],.i .i64 1]] .ro],[.i .i64 1,.sl 11 false [[.i .i64 0,.i .i64 1,.i .i64 2,.sl 1 true [] .ro,.i .i64 0,.sl 4 true [] .ro,.i .i64 0,.i .i64 0,.i .i64 0,.s [],.i .i64 1]] .ro]] .ro
def awP:D:=.sl 2 false [[.i .i64 1,.sl 11 false [[.i .i64 0,.i .i64 1,.i .i64 1,.sl 1 true [] .ro,.i .i64 0,.sl 4 true [] .ro,.i .i64 0,.i .i64 0,.i .i64 0,.s [],.i .i64 1],[.i .i64 0,.i .i64 1,.i .i64 2,.sl 1 true [] .ro,.i .i64 0,.sl 4 true [] .ro,.i .i64 0,.i .i64 0,.i .i64 0,.s [],.i .i64 1]] .ro]] .ro
def awL:D:=.sl 4 false [[.i .i64 1,.i .i64 1,.sl 1 false [[.i .u32 1]] .ro,.sl 1 false [[.i .u32 2]] .ro],[.i .i64 1,.i .i64 2,.sl 1 false [[.i .u32 1]] .ro,.sl 1 false [[.i .u32 3]] .ro]] .ro
def yC:D:=.sl 2 false [[.i .i64 1,.sl 11 true [] .ro]] .ro
def awW:D:=.sl 2 false [[.i .i64 1,.sl 11 true [] .ro],[.i .i64 1,.sl 11 false [[.i .i64 0,.i .i64 1,.i .i64 2,.sl 1 true [] .ro,.i .i64 0,.sl 4 true [] .ro,.i .i64 0,.i .i64 0,.i .i64 0,.s [],.i .i64 1]] .ro]] .ro
def awZ:D:=.agg [.sl 1 false [] .ro,.sl 1 false [[.i .u32 1]] .ro]
def Ld:D:=.agg [.sl 1 false [[.i .u32 1]] .ro,.sl 1 false [[.i .u32 1]] .ro]
def Gr:D:=.agg [.sl 1 false [[.i .u32 1]] .ro,.sl 1 false [[.i .u32 2]] .ro]
def NR:D:=.agg [.sl 1 false [[.i .u32 1]] .ro,.sl 1 false [[.i .u32 3]] .ro]
def P6:D:=.agg [.sl 1 false [[.i .u32 1]] .ro,.sl 1 false [[.i .u32 6]] .ro]
def Om:D:=.agg [.sl 1 false [[.i .u32 2]] .ro,.sl 1 false [[.i .u32 3]] .ro]
def Kn(k:Nat×List D×D):Prop:=∃S,call dp k.1 k.2.1 []=some (k.2.2,S)
def kd0:Nat×List D×D:=(71,[.sl 1 false [[.i .u32 1]] .ro,.sl 1 false [[.i .u32 2]] .ro],.AY [Gr,.i .i64 0])
theorem ka0:Kn kd0:=known (kn:=[]) 60 AH (fun σ=>by kernel_rfl)
def kd1:Nat×List D×D:=(33,[.i .u64 1,.i .u64 2],.AY [Gr,.i .i64 0])
theorem ka1:Kn kd1:=known (kn:=[kd0]) 60 (A7 ka0 AH) (fun σ=>by kernel_rfl)
def kd2:Nat×List D×D:=(71,[.sl 1 false [[.i .u32 1]] .ro,.sl 1 false [[.i .u32 3]] .ro],.AY [NR,.i .i64 0])
theorem ka2:Kn kd2:=known (kn:=[]) 60 AH (fun σ=>by kernel_rfl)
def kd3:Nat×List D×D:=(33,[.i .u64 1,.i .u64 3],.AY [NR,.i .i64 0])
theorem ka3:Kn kd3:=known (kn:=[kd2]) 60 (A7 ka2 AH) (fun σ=>by kernel_rfl)
def kd4:Nat×List D×D:=(35,[.agg [.i .i64 1,.i .i64 1]],aw1)
theorem ka4:Kn kd4:=known (kn:=[]) 60 AH (fun σ=>by kernel_rfl)
def kd5:Nat×List D×D:=(35,[.agg [.i .i64 1,.i .i64 2]],rh)
theorem ka5:Kn kd5:=known (kn:=[]) 60 AH (fun σ=>by kernel_rfl)
def kd6:Nat×List D×D:=(62,[aw1],.b true)
theorem ka6:Kn kd6:=known (kn:=[]) 60 AH (fun σ=>by kernel_rfl)
def kd7:Nat×List D×D:=(62,[rh],.b true)
theorem ka7:Kn kd7:=known (kn:=[]) 60 AH (fun σ=>by kernel_rfl)
def kd8:Nat×List D×D:=(34,[aw1,rh],.AY [awS,.i .i64 0])
theorem ka8:Kn kd8:=known (kn:=[kd6,kd7]) 60 (A7 ka6 (A7 ka7 AH)) (fun σ=>by kernel_rfl)
def kd9:Nat×List D×D:=(20,[aw1,rh],.AY [awP,.i .i64 0])
theorem ka9:Kn kd9:=known (kn:=[kd6,kd7]) 60 (A7 ka6 (A7 ka7 AH)) (fun σ=>by kernel_rfl)
def Qq:Nat×List D×D:=(53,[Gr],.b true)
theorem TU:Kn Qq:=known (kn:=[]) 60 AH (fun σ=>by kernel_rfl)
def kd11:Nat×List D×D:=(30,[Gr],.b true)
theorem ka11:Kn kd11:=known (kn:=[Qq]) 60 (A7 TU AH) (fun σ=>by kernel_rfl)
def di:Nat×List D×D:=(53,[NR],.b true)
theorem nk:Kn di:=known (kn:=[]) 60 AH (fun σ=>by kernel_rfl)
def kd13:Nat×List D×D:=(30,[NR],.b true)
theorem ka13:Kn kd13:=known (kn:=[di]) 60 (A7 nk AH) (fun σ=>by kernel_rfl)
end Go.Proofs.YtjniafcnjbbomaaGreatDoor.DE
