import Derived.Test.YtaalpiacinifkaaGreatDoorG1
/- Part of the proof that ForwardNone of law 21 returns true whatever it is called with. No condition. -/
set_option linter.all false
namespace Go.Fx
open Go Go.Sx
theorem awake_run : frunB L2 (startH L2 true) 18 1000000 3 true (.bool true true) = true := by kernel_rfl
end Go.Fx
