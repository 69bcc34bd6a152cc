import Derived.Test.YtaalpiacinifkaaGreatDoorK1
import Derived.Test.YtaalpiacinifkaaGreatDoorK2
import Derived.Test.YtaalpiacinifkaaGreatDoorK3
import Derived.Test.YtaalpiacinifkaaGreatDoorK4
/- Part of the proof that ForwardNone of law 21 returns true whatever it is called with. No condition. -/
set_option linter.all false
namespace Go.Proofs.YtaalpiacinifkaaGreatDoor.fwNone
open Go.ChangeShapes Go.WideShapes Go.ChangeAt Go.RowKit Go.Sx Go.Fx
theorem closed : joinedFacts Tryz.prog 4 Tryz.f4 (OpenSpec.ofChange Rows.forwardNoneSpec).bare Rows.forwardNoneRow = true := by
  unfold joinedFacts
  rw [k_inPlace, k_unfollowed, k_recurses, k_named]
  kernel_rfl
end Go.Proofs.YtaalpiacinifkaaGreatDoor.fwNone
