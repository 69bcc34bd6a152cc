import Derived.Test.YtaalpiacinifkaaGreatDoorH1
/- Part of the proof that ForwardNone of law 21 returns true whatever it is called with. No condition. -/
set_option linter.all false
namespace Go.Fx
open Go Go.Sx
theorem fw_long : (fun id kn kl b sn sl => ftree L3 (fdone L3 4 true (.bool true true)) 1000000 2 (setT (fwS id kn kl b sn sl) 27 (.bool false true))) = (fun _ _ _ _ _ _ => true) := by kernel_rfl
theorem fw_short : (fun id kn kl b sn sl => ftree L3 (fdone L3 4 true (.bool true true)) 1000000 2 (setT (fwS id kn kl b sn sl) 27 (.bool false false))) = (fun _ _ _ _ _ _ => true) := by kernel_rfl
end Go.Fx
