/- Joined texts. -/
import Derived.Test.YtjniafcnjbbomaaGreatDoorQx2
import Derived.Test.YtjniafcnjbbomaaGreatDoorQx3
import Derived.Test.YtjniafcnjbbomaaGreatDoorProg
import Derived.KernelRfl
set_option linter.all false
namespace Go.Proofs.YtjniafcnjbbomaaGreatDoor.DE
open Go
theorem mY:dpL.all (fun p=>mFn Tryz.prog dp p.2)=true:=by kernel_rfl
theorem mixed:(Tryz.prog).follows .mixedOrders=true:=by kernel_rfl
theorem Nk{Z:Type}:∀{l:List (Nat × Z)} {g:Nat} {f:Z},l.lookup g=some f->∃p∈l,p.2=f
 |[],_,_,h=>by simp at h
 |(k,x)::l,g,f,h=>by
  simp only[List.lookup_cons] at h;split at h
  .injection h with h
   exact⟨(k,x),by simp,h⟩
  .obtain⟨p,h1,h2⟩:=Nk h;exact⟨p,by simp[h1],h2⟩
theorem NA:Good Tryz.prog dp:=by intro g f h;obtain⟨p,h1,rfl⟩:=Nk h;exact List.all_eq_true.1 mY p h1
end Go.Proofs.YtjniafcnjbbomaaGreatDoor.DE
