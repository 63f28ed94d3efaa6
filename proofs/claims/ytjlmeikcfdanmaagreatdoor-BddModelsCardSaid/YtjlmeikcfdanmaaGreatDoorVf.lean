/-
  THE EXAMPLE OF THE CHAPTER HOLDS: reckoned.
-/
import Derived.Test.YtjlmeikcfdanmaaGreatDoorDe2
import Derived.Test.YtjlmeikcfdanmaaGreatDoorDp
import Derived.KernelRfl
namespace Go.Proofs.YtjlmeikcfdanmaaGreatDoor.DE
open Go

def awk (n : Nat) : Bool := match callN dp n 10 [] [] with
  | some (.b true, _) => true
  | _ => false

theorem awk_ok : awk 60 = true := by kernel_rfl

theorem v10 : isoCall (call dp) 10 [] = some (.b true) := by
  have h : ∃ S, callN dp 60 10 [] [] = some (.b true, S) := by
    have := awk_ok
    unfold awk at this
    split at this
    · rename_i S h; exact ⟨S, h⟩
    · cases this
  obtain ⟨S, h⟩ := h
  have := (call_iff 10 [] [] _).2 ⟨60, h⟩
  simp only [isoCall, stripL, noRefL, if_true, this]
  rfl

end Go.Proofs.YtjlmeikcfdanmaaGreatDoor.DE
