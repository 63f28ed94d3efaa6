/- Joined texts. -/
import Derived.Test.YtjniafcnjbbomaaGreatDoorQx16
set_option linter.all false
namespace Go.Proofs.YtjniafcnjbbomaaGreatDoor.DE
open Go
def kd56:Nat×List D×D:=(20,[yC,yC],.AY [yC,.i .i64 0])
theorem ka56:Kn kd56:=known (kn:=[fK]) 60 (A7 mL AH) (fun σ=>by kernel_rfl)
def kd57:Nat×List D×D:=(34,[.sl 2 true [] .ro,yC],.AY [yC,.i .i64 0])
theorem ka57:Kn kd57:=known (kn:=[oA,fK]) 60 (A7 pz (A7 mL AH)) (fun σ=>by kernel_rfl)
def kd58:Nat×List D×D:=(34,[yC,rh],.AY [awW,.i .i64 0])
theorem ka58:Kn kd58:=known (kn:=[kd7,fK]) 60 (A7 ka7 (A7 mL AH)) (fun σ=>by kernel_rfl)
def kd59:Nat×List D×D:=(153,[awS,.sl 3 false [[.i .i64 1,.i .i64 1,yC]] .ro],.AY [awW,.i .i64 0])
theorem ka59:Kn kd59:=known (kn:=[kd5,lx,fK,kd52,kd56,kd57,kd58]) 60 (A7 ka5 (A7 ql (A7 mL (A7 ka52 (A7 ka56 (A7 ka57 (A7 ka58 AH))))))) (fun σ=>by kernel_rfl)
def kd60:Nat×List D×D:=(68,[rh],.sl 2 false [[.i .i64 1,.i .i64 2]] .ro)
theorem ka60:Kn kd60:=known (kn:=[]) 60 AH (fun σ=>by kernel_rfl)
def kd61:Nat×List D×D:=(27,[awZ,Gr],.AY [Gr,.i .i64 0])
theorem ka61:Kn kd61:=known (kn:=[kd0,Qq,lT]) 60 (A7 ka0 (A7 TU (A7 sc AH))) (fun σ=>by kernel_rfl)
def kd62:Nat×List D×D:=(71,[.sl 1 false [[.i .u32 4]] .ro,.sl 1 false [[.i .u32 4]] .ro],.AY [Ld,.i .i64 0])
theorem ka62:Kn kd62:=known (kn:=[]) 60 AH (fun σ=>by kernel_rfl)
def kd63:Nat×List D×D:=(27,[Gr,Gr],.AY [Ld,.i .i64 0])
theorem ka63:Kn kd63:=known (kn:=[Qq,kd62]) 60 (A7 TU (A7 ka62 AH)) (fun σ=>by kernel_rfl)
def kd64:Nat×List D×D:=(36,[awS,.i .i64 1,awL],.AY [Gr,Ld,.i .i64 0])
theorem ka64:Kn kd64:=known (kn:=[fG,wv,lx,kd28,kd54,kd55,kd59,kd60,kd61,kd63]) 60 (A7 nY (A7 zr (A7 ql (A7 ka28 (A7 ka54 (A7 ka55 (A7 ka59 (A7 ka60 (A7 ka61 (A7 ka63 AH)))))))))) (fun σ=>by kernel_rfl)
def kd65:Nat×List D×D:=(37,[Om],.s [50,47,51])
theorem ka65:Kn kd65:=known (kn:=[kd20]) 60 (A7 ka20 AH) (fun σ=>by kernel_rfl)
def kd66:Nat×List D×D:=(37,[P6],.s [49,47,54])
theorem ka66:Kn kd66:=known (kn:=[kd32]) 60 (A7 ka32 AH) (fun σ=>by kernel_rfl)
def kd67:Nat×List D×D:=(37,[awZ],.s [48])
theorem ka67:Kn kd67:=known (kn:=[lT]) 60 (A7 sc AH) (fun σ=>by kernel_rfl)
def kd68:Nat×List D×D:=(37,[Ld],.s [49])
theorem ka68:Kn kd68:=known (kn:=[mE]) 60 (A7 pq AH) (fun σ=>by kernel_rfl)
def kd69:Nat×List D×D:=(37,[Gr],.s [49,47,50])
theorem ka69:Kn kd69:=known (kn:=[Qq]) 60 (A7 TU AH) (fun σ=>by kernel_rfl)
end Go.Proofs.YtjniafcnjbbomaaGreatDoor.DE
