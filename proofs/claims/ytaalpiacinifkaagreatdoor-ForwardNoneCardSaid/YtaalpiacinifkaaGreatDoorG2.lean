import Derived.Test.YtaalpiacinifkaaGreatDoorG1
/- Part of the proof that ForwardNone of law 21 returns true whatever it is called with. No condition. -/
set_option linter.all false
namespace Go.Fx
open Go Go.Sx
theorem blank_run : frunB L1 (startH L1 false) 174 1000000 2 false (.str 0 64) = true := by kernel_rfl
end Go.Fx
