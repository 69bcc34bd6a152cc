import Derived.Test.YtaalpiacinifkaaGreatDoorG1
import Derived.Test.YtaalpiacinifkaaGreatDoorF7
/- Part of the proof that ForwardNone of law 21 returns true whatever it is called with. No condition. -/
set_option linter.all false
/- ForwardNone of law 21: its run, at every argument. -/
namespace Go.Fx
open Go Go.Sx
noncomputable section
def argsF (id : Int) (kn kl : Nat) (b : Bool) (sn sl : Nat) : List FV := [.int false .i64 id, .str kn kl, .agg [.bool false b, .str sn sl]]
def fwS (id : Int) (kn kl : Nat) (b : Bool) (sn sl : Nat) : FSt := frun L3 11 (startA Go.Proofs.Tryz.prog (startH L3 true) 4 (argsF id kn kl b sn sl))
end
theorem fw_pre : (fun id kn kl b sn sl => fwS id kn kl b sn sl) = (fun id kn kl b sn sl => setT (fwS id kn kl b sn sl) 27 (.bool false (Nat.blt 100 kl))) := by kernel_rfl
theorem fw_enters : entersB Go.Proofs.Tryz.prog 4 3 = true := by kernel_rfl
end Go.Fx
