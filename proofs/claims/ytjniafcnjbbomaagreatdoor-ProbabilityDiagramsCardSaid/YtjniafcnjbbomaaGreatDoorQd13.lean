/-
  SEVERAL TEXTS IN ONE (joined by tools/asm3.py of this repository): Ka.
-/
import Derived.Test.YtjniafcnjbbomaaGreatDoorQd12
set_option linter.unusedVariables false
set_option linter.unusedSimpArgs false
namespace Go.Proofs.YtjniafcnjbbomaaGreatDoor.DE
open Go
def aw1:D:=.sl 2 false [[.i .i64 1,.sl 11 false [[.i .i64 0,.i .i64 1,.i .i64 1,.sl 1 true [] .ro,.i .i64 0,.sl 4 true [] .ro,.i .i64 0,.i .i64 0,.i .i64 0,.s [],.i .i64 1]] .ro]] .ro
def aw2:D:=.sl 2 false [[.i .i64 1,.sl 11 false [[.i .i64 0,.i .i64 1,.i .i64 2,.sl 1 true [] .ro,.i .i64 0,.sl 4 true [] .ro,.i .i64 0,.i .i64 0,.i .i64 0,.s [],.i .i64 1]] .ro]] .ro
def awS:D:=.sl 2 false [[.i .i64 1,.sl 11 false [[.i .i64 0,.i .i64 1,.i .i64 1,.sl 1 true [] .ro,.i .i64 0,.sl 4 true [] .ro,.i .i64 0,.i .i64 0,.i .i64 0,.s [],.i .i64 1]] .ro],[.i .i64 1,.sl 11 false [[.i .i64 0,.i .i64 1,.i .i64 2,.sl 1 true [] .ro,.i .i64 0,.sl 4 true [] .ro,.i .i64 0,.i .i64 0,.i .i64 0,.s [],.i .i64 1]] .ro]] .ro
def awP:D:=.sl 2 false [[.i .i64 1,.sl 11 false [[.i .i64 0,.i .i64 1,.i .i64 1,.sl 1 true [] .ro,.i .i64 0,.sl 4 true [] .ro,.i .i64 0,.i .i64 0,.i .i64 0,.s [],.i .i64 1],[.i .i64 0,.i .i64 1,.i .i64 2,.sl 1 true [] .ro,.i .i64 0,.sl 4 true [] .ro,.i .i64 0,.i .i64 0,.i .i64 0,.s [],.i .i64 1]] .ro]] .ro
def awL:D:=.sl 4 false [[.i .i64 1,.i .i64 1,.sl 1 false [[.i .u32 1]] .ro,.sl 1 false [[.i .u32 2]] .ro],[.i .i64 1,.i .i64 2,.sl 1 false [[.i .u32 1]] .ro,.sl 1 false [[.i .u32 3]] .ro]] .ro
def awO:D:=.sl 2 false [[.i .i64 1,.sl 11 true [] .ro]] .ro
def awW:D:=.sl 2 false [[.i .i64 1,.sl 11 true [] .ro],[.i .i64 1,.sl 11 false [[.i .i64 0,.i .i64 1,.i .i64 2,.sl 1 true [] .ro,.i .i64 0,.sl 4 true [] .ro,.i .i64 0,.i .i64 0,.i .i64 0,.s [],.i .i64 1]] .ro]] .ro
def awZ:D:=.agg [.sl 1 false [] .ro,.sl 1 false [[.i .u32 1]] .ro]
def aw1_1:D:=.agg [.sl 1 false [[.i .u32 1]] .ro,.sl 1 false [[.i .u32 1]] .ro]
def aw1_2:D:=.agg [.sl 1 false [[.i .u32 1]] .ro,.sl 1 false [[.i .u32 2]] .ro]
def aw1_3:D:=.agg [.sl 1 false [[.i .u32 1]] .ro,.sl 1 false [[.i .u32 3]] .ro]
def aw1_6:D:=.agg [.sl 1 false [[.i .u32 1]] .ro,.sl 1 false [[.i .u32 6]] .ro]
def aw2_3:D:=.agg [.sl 1 false [[.i .u32 2]] .ro,.sl 1 false [[.i .u32 3]] .ro]
def Kn (k:Nat × List D × D):Prop:=∃ S,call dp k.1 k.2.1 []=some (k.2.2,S)
def kd0:Nat × List D × D:=(71,[.sl 1 false [[.i .u32 1]] .ro,.sl 1 false [[.i .u32 2]] .ro],.tup [aw1_2,.i .i64 0])
theorem ka0:Kn kd0:=known (kn:=[]) 60 known_nil (fun σ=>by kernel_rfl)
def kd1:Nat × List D × D:=(33,[.i .u64 1,.i .u64 2],.tup [aw1_2,.i .i64 0])
theorem ka1:Kn kd1:=known (kn:=[kd0]) 60 (known_cons ka0 known_nil) (fun σ=>by kernel_rfl)
def kd2:Nat × List D × D:=(71,[.sl 1 false [[.i .u32 1]] .ro,.sl 1 false [[.i .u32 3]] .ro],.tup [aw1_3,.i .i64 0])
theorem ka2:Kn kd2:=known (kn:=[]) 60 known_nil (fun σ=>by kernel_rfl)
def kd3:Nat × List D × D:=(33,[.i .u64 1,.i .u64 3],.tup [aw1_3,.i .i64 0])
theorem ka3:Kn kd3:=known (kn:=[kd2]) 60 (known_cons ka2 known_nil) (fun σ=>by kernel_rfl)
def kd4:Nat × List D × D:=(35,[.agg [.i .i64 1,.i .i64 1]],aw1)
theorem ka4:Kn kd4:=known (kn:=[]) 60 known_nil (fun σ=>by kernel_rfl)
def kd5:Nat × List D × D:=(35,[.agg [.i .i64 1,.i .i64 2]],aw2)
theorem ka5:Kn kd5:=known (kn:=[]) 60 known_nil (fun σ=>by kernel_rfl)
def kd6:Nat × List D × D:=(62,[aw1],.b true)
theorem ka6:Kn kd6:=known (kn:=[]) 60 known_nil (fun σ=>by kernel_rfl)
def kd7:Nat × List D × D:=(62,[aw2],.b true)
theorem ka7:Kn kd7:=known (kn:=[]) 60 known_nil (fun σ=>by kernel_rfl)
def kd8:Nat × List D × D:=(34,[aw1,aw2],.tup [awS,.i .i64 0])
theorem ka8:Kn kd8:=known (kn:=[kd6,kd7]) 60 (known_cons ka6 (known_cons ka7 known_nil)) (fun σ=>by kernel_rfl)
def kd9:Nat × List D × D:=(20,[aw1,aw2],.tup [awP,.i .i64 0])
theorem ka9:Kn kd9:=known (kn:=[kd6,kd7]) 60 (known_cons ka6 (known_cons ka7 known_nil)) (fun σ=>by kernel_rfl)
def kd10:Nat × List D × D:=(53,[aw1_2],.b true)
theorem ka10:Kn kd10:=known (kn:=[]) 60 known_nil (fun σ=>by kernel_rfl)
def kd11:Nat × List D × D:=(30,[aw1_2],.b true)
theorem ka11:Kn kd11:=known (kn:=[kd10]) 60 (known_cons ka10 known_nil) (fun σ=>by kernel_rfl)
def kd12:Nat × List D × D:=(53,[aw1_3],.b true)
theorem ka12:Kn kd12:=known (kn:=[]) 60 known_nil (fun σ=>by kernel_rfl)
def kd13:Nat × List D × D:=(30,[aw1_3],.b true)
theorem ka13:Kn kd13:=known (kn:=[kd12]) 60 (known_cons ka12 known_nil) (fun σ=>by kernel_rfl)
end Go.Proofs.YtjniafcnjbbomaaGreatDoor.DE
