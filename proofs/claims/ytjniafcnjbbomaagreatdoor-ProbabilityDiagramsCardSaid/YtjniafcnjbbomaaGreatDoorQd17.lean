/-
  SEVERAL TEXTS IN ONE (joined by tools/asm3.py of this repository): Ke.
-/
import Derived.Test.YtjniafcnjbbomaaGreatDoorQd16
set_option linter.unusedVariables false
set_option linter.unusedSimpArgs false
namespace Go.Proofs.YtjniafcnjbbomaaGreatDoor.DE
open Go
def kd56:Nat × List D × D:=(20,[awO,awO],.tup [awO,.i .i64 0])
theorem ka56:Kn kd56:=known (kn:=[kd49]) 60 (known_cons ka49 known_nil) (fun σ=>by kernel_rfl)
def kd57:Nat × List D × D:=(34,[.sl 2 true [] .ro,awO],.tup [awO,.i .i64 0])
theorem ka57:Kn kd57:=known (kn:=[kd48,kd49]) 60 (known_cons ka48 (known_cons ka49 known_nil)) (fun σ=>by kernel_rfl)
def kd58:Nat × List D × D:=(34,[awO,aw2],.tup [awW,.i .i64 0])
theorem ka58:Kn kd58:=known (kn:=[kd7,kd49]) 60 (known_cons ka7 (known_cons ka49 known_nil)) (fun σ=>by kernel_rfl)
def kd59:Nat × List D × D:=(153,[awS,.sl 3 false [[.i .i64 1,.i .i64 1,awO]] .ro],.tup [awW,.i .i64 0])
theorem ka59:Kn kd59:=known (kn:=[kd5,kd16,kd49,kd52,kd56,kd57,kd58]) 60 (known_cons ka5 (known_cons ka16 (known_cons ka49 (known_cons ka52 (known_cons ka56 (known_cons ka57 (known_cons ka58 known_nil))))))) (fun σ=>by kernel_rfl)
def kd60:Nat × List D × D:=(68,[aw2],.sl 2 false [[.i .i64 1,.i .i64 2]] .ro)
theorem ka60:Kn kd60:=known (kn:=[]) 60 known_nil (fun σ=>by kernel_rfl)
def kd61:Nat × List D × D:=(27,[awZ,aw1_2],.tup [aw1_2,.i .i64 0])
theorem ka61:Kn kd61:=known (kn:=[kd0,kd10,kd21]) 60 (known_cons ka0 (known_cons ka10 (known_cons ka21 known_nil))) (fun σ=>by kernel_rfl)
def kd62:Nat × List D × D:=(71,[.sl 1 false [[.i .u32 4]] .ro,.sl 1 false [[.i .u32 4]] .ro],.tup [aw1_1,.i .i64 0])
theorem ka62:Kn kd62:=known (kn:=[]) 60 known_nil (fun σ=>by kernel_rfl)
def kd63:Nat × List D × D:=(27,[aw1_2,aw1_2],.tup [aw1_1,.i .i64 0])
theorem ka63:Kn kd63:=known (kn:=[kd10,kd62]) 60 (known_cons ka10 (known_cons ka62 known_nil)) (fun σ=>by kernel_rfl)
def kd64:Nat × List D × D:=(36,[awS,.i .i64 1,awL],.tup [aw1_2,aw1_1,.i .i64 0])
theorem ka64:Kn kd64:=known (kn:=[kd14,kd15,kd16,kd28,kd54,kd55,kd59,kd60,kd61,kd63]) 60 (known_cons ka14 (known_cons ka15 (known_cons ka16 (known_cons ka28 (known_cons ka54 (known_cons ka55 (known_cons ka59 (known_cons ka60 (known_cons ka61 (known_cons ka63 known_nil)))))))))) (fun σ=>by kernel_rfl)
def kd65:Nat × List D × D:=(37,[aw2_3],.s [50,47,51])
theorem ka65:Kn kd65:=known (kn:=[kd20]) 60 (known_cons ka20 known_nil) (fun σ=>by kernel_rfl)
def kd66:Nat × List D × D:=(37,[aw1_6],.s [49,47,54])
theorem ka66:Kn kd66:=known (kn:=[kd32]) 60 (known_cons ka32 known_nil) (fun σ=>by kernel_rfl)
def kd67:Nat × List D × D:=(37,[awZ],.s [48])
theorem ka67:Kn kd67:=known (kn:=[kd21]) 60 (known_cons ka21 known_nil) (fun σ=>by kernel_rfl)
def kd68:Nat × List D × D:=(37,[aw1_1],.s [49])
theorem ka68:Kn kd68:=known (kn:=[kd24]) 60 (known_cons ka24 known_nil) (fun σ=>by kernel_rfl)
def kd69:Nat × List D × D:=(37,[aw1_2],.s [49,47,50])
theorem ka69:Kn kd69:=known (kn:=[kd10]) 60 (known_cons ka10 known_nil) (fun σ=>by kernel_rfl)
end Go.Proofs.YtjniafcnjbbomaaGreatDoor.DE
