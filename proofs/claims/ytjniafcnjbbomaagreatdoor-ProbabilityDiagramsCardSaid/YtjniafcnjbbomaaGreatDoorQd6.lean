/-
  SEVERAL TEXTS IN ONE (joined by tools/asm3.py of this repository): Em.
-/
import Derived.Test.YtjniafcnjbbomaaGreatDoorQd2
import Derived.Test.YtjniafcnjbbomaaGreatDoorQd5
import Derived.Test.YtjniafcnjbbomaaGreatDoorProg
import Derived.KernelRfl
set_option linter.unusedVariables false
set_option linter.unusedSimpArgs false
namespace Go.Proofs.YtjniafcnjbbomaaGreatDoor.DE
open Go
theorem all_match:dpL.all (fun p=>mFn Tryz.prog dp p.2)=true:=by kernel_rfl
theorem mixed:(Tryz.prog).follows .mixedOrders=true:=by kernel_rfl
theorem lookup_mem {α:Type}:∀ {l:List (Nat × α)} {g:Nat} {f:α},l.lookup g=some f→∃ p∈l,p.2=f
 | [],_,_,h=>by simp at h
 | (k,x)::l,g,f,h=>by
  simp only [List.lookup_cons] at h
  split at h
  ·injection h with h
   exact ⟨(k,x),by simp,h⟩
  ·obtain ⟨p,h1,h2⟩:=lookup_mem h
   exact ⟨p,by simp [h1],h2⟩
theorem good:Good Tryz.prog dp:=by
 intro g f h
 obtain ⟨p,h1,rfl⟩:=lookup_mem h
 exact List.all_eq_true.1 all_match p h1
end Go.Proofs.YtjniafcnjbbomaaGreatDoor.DE
