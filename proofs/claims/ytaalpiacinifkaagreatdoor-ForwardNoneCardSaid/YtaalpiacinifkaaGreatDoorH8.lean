import Derived.Test.YtaalpiacinifkaaGreatDoorH7
/- Part of the proof that ForwardNone of law 21 returns true whatever it is called with. No condition. -/
set_option linter.all false
namespace Go.Proofs.YtaalpiacinifkaaGreatDoor.fwNone
open Go.ChangeShapes Go.WideShapes Go.ChangeAt Go.RowKit Go.Sx Go.Fx
/-- No parameter wants a stand-in; the program's own looks are off: what the card asks. -/
theorem plain (f : FuncId) (fn : Func) (hf : Tryz.pinned.checked.prog.funcNamed "quadriga/quadrigalaw21.ForwardNone" = some f) (hfn : Tryz.pinned.checked.prog.funcs[f]? = some fn) :
    false = Tryz.pinned.checked.prog.looks [] ∧ ∀ (j : Nat) t, fn.params[j]? = some t → Tryz.pinned.checked.prog.wantsStandIn t = false := by
  obtain rfl : f = 4 := Option.some.inj ((show Tryz.prog.funcNamed "quadriga/quadrigalaw21.ForwardNone" = some 4 by kernel_rfl).symm.trans hf) |>.symm
  obtain rfl : fn = Tryz.f4 := (Option.some.inj (Tryz.func4.symm.trans hfn)).symm
  refine ⟨by kernel_rfl, fun j t ht => ?_⟩
  rw [Tryz.params4] at ht
  have : t = 3 ∨ t = 9 ∨ t = 62 := by simpa using Array.mem_of_getElem? ht
  rcases this with rfl | rfl | rfl
  · exact (show Tryz.prog.wantsStandIn 3 = false by kernel_rfl)
  · exact (show Tryz.prog.wantsStandIn 9 = false by kernel_rfl)
  · exact (show Tryz.prog.wantsStandIn 62 = false by kernel_rfl)
end Go.Proofs.YtaalpiacinifkaaGreatDoor.fwNone
namespace Go.Proofs.YtaalpiacinifkaaGreatDoor
/-- The card. -/
theorem forwardNone_holds : Rows.ForwardNoneCardSaid :=
  Claim7.holds_tied_plain_at .later [] _ _ _ _ fwNone.said (fun _ h => by cases h) (by kernel_rfl) (fun _ h => by cases h) forwardNone_row_tie rfl ⟨rfl, rfl⟩ (by kernel_rfl) rfl fwNone.plain (by kernel_rfl)
#print axioms forwardNone_holds
end Go.Proofs.YtaalpiacinifkaaGreatDoor
