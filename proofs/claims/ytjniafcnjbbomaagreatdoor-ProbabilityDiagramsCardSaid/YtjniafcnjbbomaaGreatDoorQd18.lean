/-
  SEVERAL TEXTS IN ONE (joined by tools/asm3.py of this repository): Kz.
-/
import Derived.Test.YtjniafcnjbbomaaGreatDoorQd17
set_option linter.unusedVariables false
set_option linter.unusedSimpArgs false
namespace Go.Proofs.YtjniafcnjbbomaaGreatDoor.DE
open Go
theorem ka_awake:Kn (8,[],.b true):=known (kn:=[kd1,kd3,kd4,kd8,kd9,kd36,kd44,kd47,kd64,kd65,kd66,kd67,kd68,kd69]) 60 (known_cons ka1 (known_cons ka3 (known_cons ka4 (known_cons ka8 (known_cons ka9 (known_cons ka36 (known_cons ka44 (known_cons ka47 (known_cons ka64 (known_cons ka65 (known_cons ka66 (known_cons ka67 (known_cons ka68 (known_cons ka69 known_nil)))))))))))))) (fun σ=>by kernel_rfl)
theorem v8:isoCall (call dp) 8 []=some (.b true):=by
 obtain ⟨S,h⟩:=ka_awake
 simp only [isoCall,stripL,noRefL,if_true,h]
 rfl
end Go.Proofs.YtjniafcnjbbomaaGreatDoor.DE
