import Derived.Test.YtaalpiacinifkaaGreatDoorH5
/- Part of the proof that ForwardNone of law 21 returns true whatever it is called with. No condition. -/
set_option linter.all false
namespace Go.Proofs.YtaalpiacinifkaaGreatDoor.fwNone
open Go.ChangeShapes Go.WideShapes Go.ChangeAt Go.RowKit Go.Sx Go.Fx
 theorem k_recurses : (Rows.forwardNoneRow.recurses == Tryz.prog.recurses 4) = true := by kernel_rfl 
end Go.Proofs.YtaalpiacinifkaaGreatDoor.fwNone
