import Derived.Test.YtaalpiacinifkaaGreatDoorG1
import Derived.WalkKit
/- Part of the proof that ForwardNone of law 21 returns true whatever it is called with. No condition. -/
set_option linter.all false
/- The functions without a Go body. -/
namespace Go.Fx
open Go Go.Sx Go.Proofs
theorem noEsc : IsNoEscape Tryz.prog 322 := by
  intro args w
  rw [run_callFunc_extern Tryz.func322 (by kernel_rfl) (by kernel_rfl) (by kernel_rfl) (e := Extern.AbiNoEscape.same) (by kernel_rfl)]
  simp only [Sem.run_bind]
  rfl
theorem makeNo : IsMakeNoZero Tryz.prog 5 323 := by
  refine ⟨Tryz.f323.params, Tryz.f323.resultTypes, 342, ?_, ?_, fun args w => ?_⟩
  rotate_left 2
  · rw [run_callFunc_extern Tryz.func323 (by kernel_rfl) (by kernel_rfl) (by kernel_rfl) (e := Extern.BytealgMakeNoZero.makeNoZero Tryz.f323.params Tryz.f323.resultTypes) (by kernel_rfl)]
    simp only [Sem.run_bind]
    rfl
  · kernel_rfl
  · kernel_rfl
end Go.Fx
