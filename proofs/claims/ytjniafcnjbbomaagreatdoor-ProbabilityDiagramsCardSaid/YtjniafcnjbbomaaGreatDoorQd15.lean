/-
  SEVERAL TEXTS IN ONE (joined by tools/asm3.py of this repository): Kc.
-/
import Derived.Test.YtjniafcnjbbomaaGreatDoorQd14
set_option linter.unusedVariables false
set_option linter.unusedSimpArgs false
namespace Go.Proofs.YtjniafcnjbbomaaGreatDoor.DE
open Go
def kd28:Nat × List D × D:=(95,[aw1_2],.tup [aw1_2,.i .i64 0])
theorem ka28:Kn kd28:=known (kn:=[kd0,kd10]) 60 (known_cons ka0 (known_cons ka10 known_nil)) (fun σ=>by kernel_rfl)
def kd29:Nat × List D × D:=(71,[.sl 1 false [[.i .u32 1]] .ro,.sl 1 false [[.i .u32 6]] .ro],.tup [aw1_6,.i .i64 0])
theorem ka29:Kn kd29:=known (kn:=[]) 60 known_nil (fun σ=>by kernel_rfl)
def kd30:Nat × List D × D:=(29,[aw1_2,aw1_3],.tup [aw1_6,.i .i64 0])
theorem ka30:Kn kd30:=known (kn:=[kd10,kd12,kd29]) 60 (known_cons ka10 (known_cons ka12 (known_cons ka29 known_nil))) (fun σ=>by kernel_rfl)
def kd31:Nat × List D × D:=(29,[aw1_2,aw1_1],.tup [aw1_2,.i .i64 0])
theorem ka31:Kn kd31:=known (kn:=[kd0,kd10,kd24]) 60 (known_cons ka0 (known_cons ka10 (known_cons ka24 known_nil))) (fun σ=>by kernel_rfl)
def kd32:Nat × List D × D:=(53,[aw1_6],.b true)
theorem ka32:Kn kd32:=known (kn:=[]) 60 known_nil (fun σ=>by kernel_rfl)
def kd33:Nat × List D × D:=(71,[.sl 1 false [[.i .u32 8]] .ro,.sl 1 false [[.i .u32 12]] .ro],.tup [aw2_3,.i .i64 0])
theorem ka33:Kn kd33:=known (kn:=[]) 60 known_nil (fun σ=>by kernel_rfl)
def kd34:Nat × List D × D:=(27,[aw1_6,aw1_2],.tup [aw2_3,.i .i64 0])
theorem ka34:Kn kd34:=known (kn:=[kd10,kd32,kd33]) 60 (known_cons ka10 (known_cons ka32 (known_cons ka33 known_nil))) (fun σ=>by kernel_rfl)
def kd35:Nat × List D × D:=(9,[.agg [.sl 2 false [[.i .i64 1,.i .i64 1],[.i .i64 1,.i .i64 2]] .ro,.sl 3 false [[.i .i64 1,.i .i64 0,.i .i64 1],[.i .i64 0,.i .i64 2,.i .i64 1]] .ro,.i .i64 3],awL],.tup [aw2_3,.i .i64 0])
theorem ka35:Kn kd35:=known (kn:=[kd14,kd19,kd23,kd25,kd27,kd28,kd30,kd31,kd34]) 60 (known_cons ka14 (known_cons ka19 (known_cons ka23 (known_cons ka25 (known_cons ka27 (known_cons ka28 (known_cons ka30 (known_cons ka31 (known_cons ka34 known_nil))))))))) (fun σ=>by kernel_rfl)
def kd36:Nat × List D × D:=(21,[awS,.i .i64 9,awL],.tup [aw2_3,.i .i64 0])
theorem ka36:Kn kd36:=known (kn:=[kd14,kd15,kd17,kd35]) 60 (known_cons ka14 (known_cons ka15 (known_cons ka17 (known_cons ka35 known_nil)))) (fun σ=>by kernel_rfl)
def kd37:Nat × List D × D:=(68,[awP],.sl 2 false [[.i .i64 1,.i .i64 1],[.i .i64 1,.i .i64 2]] .ro)
theorem ka37:Kn kd37:=known (kn:=[]) 60 known_nil (fun σ=>by kernel_rfl)
def kd38:Nat × List D × D:=(62,[awP],.b true)
theorem ka38:Kn kd38:=known (kn:=[]) 60 known_nil (fun σ=>by kernel_rfl)
def kd39:Nat × List D × D:=(67,[.sl 2 false [[.i .i64 1,.i .i64 1],[.i .i64 1,.i .i64 2]] .ro,awP,.i .i64 9],.tup [.agg [.sl 2 false [[.i .i64 1,.i .i64 1],[.i .i64 1,.i .i64 2]] .ro,.sl 3 false [[.i .i64 1,.i .i64 0,.i .i64 1],[.i .i64 0,.i .i64 0,.i .i64 2]] .ro,.i .i64 3],.i .i64 0])
theorem ka39:Kn kd39:=known (kn:=[kd37,kd38]) 60 (known_cons ka37 (known_cons ka38 known_nil)) (fun σ=>by kernel_rfl)
def kd40:Nat × List D × D:=(71,[.sl 1 false [] .ro,.sl 1 false [[.i .u32 2]] .ro],.tup [.agg [.sl 1 true [] .ro,.sl 1 false [[.i .u32 1]] .ro],.i .i64 0])
theorem ka40:Kn kd40:=known (kn:=[]) 60 known_nil (fun σ=>by kernel_rfl)
def kd41:Nat × List D × D:=(29,[aw1_2,awZ],.tup [.agg [.sl 1 true [] .ro,.sl 1 false [[.i .u32 1]] .ro],.i .i64 0])
theorem ka41:Kn kd41:=known (kn:=[kd10,kd21,kd40]) 60 (known_cons ka10 (known_cons ka21 (known_cons ka40 known_nil))) (fun σ=>by kernel_rfl)
end Go.Proofs.YtjniafcnjbbomaaGreatDoor.DE
