import Derived.Test.YtaalpiacinifkaaGreatDoorG7
import Derived.Test.YtaalpiacinifkaaGreatDoorH2
/- Part of the proof that ForwardNone of law 21 returns true whatever it is called with. No condition. -/
set_option linter.all false
/- ForwardNone of law 21: its contract. -/
namespace Go.Fx
open Go Go.Sx Go.Proofs
theorem fw_good (id : Int) (kn kl : Nat) (b : Bool) (sn sl : Nat) : FGood L3 4 (QC L3 true (.bool true true)) (startA L3.P (startH L3 true) 4 (argsF id kn kl b sn sl)) := by
  refine frun_good (L := L3) mixed (primSim L3) extok3 (primOk facts3) 11 ?_
  have h : fwS id kn kl b sn sl = setT (fwS id kn kl b sn sl) 27 (.bool false (Nat.blt 100 kl)) := congrFun (congrFun (congrFun (congrFun (congrFun (congrFun fw_pre id) kn) kl) b) sn) sl
  change FGood L3 4 _ (fwS id kn kl b sn sl)
  rw [h]
  refine ftree_good mixed (primSim L3) extok3 (primOk facts3) (fun s hs => fdone_good (need := true) (c := .bool true true) hs) 1000000 2 ?_
  cases Nat.blt 100 kl with
  | true => exact congrFun (congrFun (congrFun (congrFun (congrFun (congrFun fw_long id) kn) kl) b) sn) sl
  | false => exact congrFun (congrFun (congrFun (congrFun (congrFun (congrFun fw_short id) kn) kl) b) sn) sl
theorem forward_ok (id : Int) (key : List UInt8) (b : Bool) (s : List UInt8) :
    FnOk Tryz.prog 4 #[.int .i64 id, .string ⟨key.toArray⟩, .agg #[.bool b, .string ⟨s.toArray⟩]] (needL L3 true) (QC L3 true (.bool true true)) := by
  refine fnOk_args (L := L3) (args := argsF id (natOf key) key.length b (natOf s) s.length) (sargs := [.int .i64 id, .str key, .agg [.bool b, .str s]]) fw_enters (fun β => ?_) (fun N ids => ?_) (fun ids => ?_) (fw_good _ _ _ _ _ _)
  · simp only [argsF, absL, absV, bytesN_natOf]; rfl
  · simp [SV.oks, SV.ok, SV.one]
  · simp [SV.dens, SV.den]
end Go.Fx
