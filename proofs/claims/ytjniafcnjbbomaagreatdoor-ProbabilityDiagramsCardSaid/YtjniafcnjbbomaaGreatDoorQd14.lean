/-
  SEVERAL TEXTS IN ONE (joined by tools/asm3.py of this repository): Kb.
-/
import Derived.Test.YtjniafcnjbbomaaGreatDoorQd13
set_option linter.unusedVariables false
set_option linter.unusedSimpArgs false
namespace Go.Proofs.YtjniafcnjbbomaaGreatDoor.DE
open Go
def kd14:Nat × List D × D:=(14,[awL],.b true)
theorem ka14:Kn kd14:=known (kn:=[kd10,kd11,kd12,kd13]) 60 (known_cons ka10 (known_cons ka11 (known_cons ka12 (known_cons ka13 known_nil)))) (fun σ=>by kernel_rfl)
def kd15:Nat × List D × D:=(68,[awS],.sl 2 false [[.i .i64 1,.i .i64 1],[.i .i64 1,.i .i64 2]] .ro)
theorem ka15:Kn kd15:=known (kn:=[]) 60 known_nil (fun σ=>by kernel_rfl)
def kd16:Nat × List D × D:=(62,[awS],.b true)
theorem ka16:Kn kd16:=known (kn:=[]) 60 known_nil (fun σ=>by kernel_rfl)
def kd17:Nat × List D × D:=(67,[.sl 2 false [[.i .i64 1,.i .i64 1],[.i .i64 1,.i .i64 2]] .ro,awS,.i .i64 9],.tup [.agg [.sl 2 false [[.i .i64 1,.i .i64 1],[.i .i64 1,.i .i64 2]] .ro,.sl 3 false [[.i .i64 1,.i .i64 0,.i .i64 1],[.i .i64 0,.i .i64 2,.i .i64 1]] .ro,.i .i64 3],.i .i64 0])
theorem ka17:Kn kd17:=known (kn:=[kd15,kd16]) 60 (known_cons ka15 (known_cons ka16 known_nil)) (fun σ=>by kernel_rfl)
def kd18:Nat × List D × D:=(71,[.sl 1 false [[.i .u32 2]] .ro,.sl 1 false [[.i .u32 3]] .ro],.tup [aw2_3,.i .i64 0])
theorem ka18:Kn kd18:=known (kn:=[]) 60 known_nil (fun σ=>by kernel_rfl)
def kd19:Nat × List D × D:=(95,[aw1_3],.tup [aw2_3,.i .i64 0])
theorem ka19:Kn kd19:=known (kn:=[kd12,kd18]) 60 (known_cons ka12 (known_cons ka18 known_nil)) (fun σ=>by kernel_rfl)
def kd20:Nat × List D × D:=(53,[aw2_3],.b true)
theorem ka20:Kn kd20:=known (kn:=[]) 60 known_nil (fun σ=>by kernel_rfl)
def kd21:Nat × List D × D:=(53,[awZ],.b true)
theorem ka21:Kn kd21:=known (kn:=[]) 60 known_nil (fun σ=>by kernel_rfl)
def kd22:Nat × List D × D:=(71,[.sl 1 false [] .ro,.sl 1 false [[.i .u32 3]] .ro],.tup [.agg [.sl 1 true [] .ro,.sl 1 false [[.i .u32 1]] .ro],.i .i64 0])
theorem ka22:Kn kd22:=known (kn:=[]) 60 known_nil (fun σ=>by kernel_rfl)
def kd23:Nat × List D × D:=(29,[aw2_3,awZ],.tup [.agg [.sl 1 true [] .ro,.sl 1 false [[.i .u32 1]] .ro],.i .i64 0])
theorem ka23:Kn kd23:=known (kn:=[kd20,kd21,kd22]) 60 (known_cons ka20 (known_cons ka21 (known_cons ka22 known_nil))) (fun σ=>by kernel_rfl)
def kd24:Nat × List D × D:=(53,[aw1_1],.b true)
theorem ka24:Kn kd24:=known (kn:=[]) 60 known_nil (fun σ=>by kernel_rfl)
def kd25:Nat × List D × D:=(29,[aw1_3,aw1_1],.tup [aw1_3,.i .i64 0])
theorem ka25:Kn kd25:=known (kn:=[kd2,kd12,kd24]) 60 (known_cons ka2 (known_cons ka12 (known_cons ka24 known_nil))) (fun σ=>by kernel_rfl)
def kd26:Nat × List D × D:=(53,[.agg [.sl 1 true [] .ro,.sl 1 false [[.i .u32 1]] .ro]],.b true)
theorem ka26:Kn kd26:=known (kn:=[]) 60 known_nil (fun σ=>by kernel_rfl)
def kd27:Nat × List D × D:=(27,[.agg [.sl 1 true [] .ro,.sl 1 false [[.i .u32 1]] .ro],aw1_3],.tup [aw1_3,.i .i64 0])
theorem ka27:Kn kd27:=known (kn:=[kd2,kd12,kd26]) 60 (known_cons ka2 (known_cons ka12 (known_cons ka26 known_nil))) (fun σ=>by kernel_rfl)
end Go.Proofs.YtjniafcnjbbomaaGreatDoor.DE
