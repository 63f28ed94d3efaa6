/-
  SEVERAL TEXTS IN ONE (joined by tools/asm3.py of this repository): Kd.
-/
import Derived.Test.YtjniafcnjbbomaaGreatDoorQd15
set_option linter.unusedVariables false
set_option linter.unusedSimpArgs false
namespace Go.Proofs.YtjniafcnjbbomaaGreatDoor.DE
open Go
def kd42:Nat × List D × D:=(27,[.agg [.sl 1 true [] .ro,.sl 1 false [[.i .u32 1]] .ro],aw1_6],.tup [aw1_6,.i .i64 0])
theorem ka42:Kn kd42:=known (kn:=[kd26,kd29,kd32]) 60 (known_cons ka26 (known_cons ka29 (known_cons ka32 known_nil))) (fun σ=>by kernel_rfl)
def kd43:Nat × List D × D:=(9,[.agg [.sl 2 false [[.i .i64 1,.i .i64 1],[.i .i64 1,.i .i64 2]] .ro,.sl 3 false [[.i .i64 1,.i .i64 0,.i .i64 1],[.i .i64 0,.i .i64 0,.i .i64 2]] .ro,.i .i64 3],awL],.tup [aw1_6,.i .i64 0])
theorem ka43:Kn kd43:=known (kn:=[kd14,kd19,kd23,kd25,kd27,kd28,kd30,kd41,kd42]) 60 (known_cons ka14 (known_cons ka19 (known_cons ka23 (known_cons ka25 (known_cons ka27 (known_cons ka28 (known_cons ka30 (known_cons ka41 (known_cons ka42 known_nil))))))))) (fun σ=>by kernel_rfl)
def kd44:Nat × List D × D:=(21,[awP,.i .i64 9,awL],.tup [aw1_6,.i .i64 0])
theorem ka44:Kn kd44:=known (kn:=[kd14,kd37,kd39,kd43]) 60 (known_cons ka14 (known_cons ka37 (known_cons ka39 (known_cons ka43 known_nil)))) (fun σ=>by kernel_rfl)
def kd45:Nat × List D × D:=(71,[.sl 1 false [[.i .u32 1]] .ro,.sl 1 false [[.i .u32 1]] .ro],.tup [aw1_1,.i .i64 0])
theorem ka45:Kn kd45:=known (kn:=[]) 60 known_nil (fun σ=>by kernel_rfl)
def kd46:Nat × List D × D:=(27,[awZ,aw1_1],.tup [aw1_1,.i .i64 0])
theorem ka46:Kn kd46:=known (kn:=[kd21,kd24,kd45]) 60 (known_cons ka21 (known_cons ka24 (known_cons ka45 known_nil))) (fun σ=>by kernel_rfl)
def kd47:Nat × List D × D:=(36,[awS,.i .i64 0,awL],.tup [awZ,aw1_1,.i .i64 0])
theorem ka47:Kn kd47:=known (kn:=[kd14,kd15,kd16,kd46]) 60 (known_cons ka14 (known_cons ka15 (known_cons ka16 (known_cons ka46 known_nil)))) (fun σ=>by kernel_rfl)
def kd48:Nat × List D × D:=(62,[.sl 2 true [] .ro],.b true)
theorem ka48:Kn kd48:=known (kn:=[]) 60 known_nil (fun σ=>by kernel_rfl)
def kd49:Nat × List D × D:=(62,[awO],.b true)
theorem ka49:Kn kd49:=known (kn:=[]) 60 known_nil (fun σ=>by kernel_rfl)
def kd50:Nat × List D × D:=(20,[awO,.sl 2 true [] .ro],.tup [.sl 2 true [] .ro,.i .i64 0])
theorem ka50:Kn kd50:=known (kn:=[kd48,kd49]) 60 (known_cons ka48 (known_cons ka49 known_nil)) (fun σ=>by kernel_rfl)
def kd51:Nat × List D × D:=(34,[.sl 2 true [] .ro,.sl 2 true [] .ro],.tup [.sl 2 true [] .ro,.i .i64 0])
theorem ka51:Kn kd51:=known (kn:=[kd48]) 60 (known_cons ka48 known_nil) (fun σ=>by kernel_rfl)
def kd52:Nat × List D × D:=(20,[awO,aw2],.tup [aw2,.i .i64 0])
theorem ka52:Kn kd52:=known (kn:=[kd7,kd49]) 60 (known_cons ka7 (known_cons ka49 known_nil)) (fun σ=>by kernel_rfl)
def kd53:Nat × List D × D:=(34,[.sl 2 true [] .ro,aw2],.tup [aw2,.i .i64 0])
theorem ka53:Kn kd53:=known (kn:=[kd7,kd48]) 60 (known_cons ka7 (known_cons ka48 known_nil)) (fun σ=>by kernel_rfl)
def kd54:Nat × List D × D:=(153,[awS,.sl 3 false [[.i .i64 1,.i .i64 1,.sl 2 true [] .ro]] .ro],.tup [aw2,.i .i64 0])
theorem ka54:Kn kd54:=known (kn:=[kd5,kd16,kd48,kd50,kd51,kd52,kd53]) 60 (known_cons ka5 (known_cons ka16 (known_cons ka48 (known_cons ka50 (known_cons ka51 (known_cons ka52 (known_cons ka53 known_nil))))))) (fun σ=>by kernel_rfl)
def kd55:Nat × List D × D:=(29,[aw1_1,aw1_2],.tup [aw1_2,.i .i64 0])
theorem ka55:Kn kd55:=known (kn:=[kd0,kd10,kd24]) 60 (known_cons ka0 (known_cons ka10 (known_cons ka24 known_nil))) (fun σ=>by kernel_rfl)
end Go.Proofs.YtjniafcnjbbomaaGreatDoor.DE
