/- The sum of "abc", reckoned by the kernel. -/
import Derived.Test.YtkhhhdjpkhnmkaaDoorShaM
namespace Go.Proofs.YtkhhhdjpkhnmkaaDoor.V
set_option maxRecDepth 100000
theorem sum_abc : sum [97, 98, 99] = [186, 120, 22, 191, 143, 1, 207, 234, 65, 65, 64, 222, 93, 174, 34, 35, 176, 3, 97, 163, 150, 23, 122, 156, 180, 16, 255, 97, 242, 0, 21, 173] := by
  decide +kernel
theorem pad3_len : (pad 3).length = 61 := by decide +kernel
theorem pad3_0 : U8 (nth (pad 3) 0) = 128 := by decide +kernel
theorem pad3_60 : U8 (nth (pad 3) 60) = 24 := by decide +kernel
end Go.Proofs.YtkhhhdjpkhnmkaaDoor.V
