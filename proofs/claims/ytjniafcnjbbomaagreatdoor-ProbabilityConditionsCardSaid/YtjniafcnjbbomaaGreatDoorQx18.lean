/- Joined texts. -/
import Derived.Test.YtjniafcnjbbomaaGreatDoorQx17
set_option linter.all false
namespace Go.Proofs.YtjniafcnjbbomaaGreatDoor.DE
open Go
theorem tz:Kn (8,[],.b true):=known (kn:=[kd1,kd3,kd4,kd8,kd9,kd36,kd44,kd47,kd64,kd65,kd66,kd67,kd68,kd69]) 60 (A7 ka1 (A7 ka3 (A7 ka4 (A7 ka8 (A7 ka9 (A7 ka36 (A7 ka44 (A7 ka47 (A7 ka64 (A7 ka65 (A7 ka66 (A7 ka67 (A7 ka68 (A7 ka69 AH)))))))))))))) (fun σ=>by kernel_rfl)
theorem v8:A0 (call dp) 8 []=some (.b true):=by obtain⟨S,h⟩:=tz;simp only[A0,stripL,A9,if_true,h];rfl
end Go.Proofs.YtjniafcnjbbomaaGreatDoor.DE
