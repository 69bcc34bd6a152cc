import Derived.Test.YtaalpiacinifkaaGreatDoorH5
/- Part of the proof that ForwardNone of law 21 returns true whatever it is called with. No condition. -/
set_option linter.all false
namespace Go.Proofs.YtaalpiacinifkaaGreatDoor.fwNone
open Go.ChangeShapes Go.WideShapes Go.ChangeAt Go.RowKit Go.Sx Go.Fx
 theorem isInst : Tryz.f4.isInstance Tryz.prog Rows.forwardNoneRow.origin Rows.forwardNoneRow.targs := (of_decide_eq_true (by kernel_rfl))
theorem isWrap : Tryz.f4.isWrapper Tryz.prog Rows.forwardNoneRow.wrapper Rows.forwardNoneRow.mainSum := by unfold Func.isWrapper; first | (rw [if_pos (by decide +kernel)]; kernel_rfl) | (rw [if_neg (by decide +kernel)]; exact ⟨rfl, rfl⟩)
theorem named4 : Tryz.prog.funcNamed Rows.forwardNoneRow.func = some 4 := by kernel_rfl 
end Go.Proofs.YtaalpiacinifkaaGreatDoor.fwNone
