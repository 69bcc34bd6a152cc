import Derived.Test.YtaalpiacinifkaaGreatDoorH5
/- Part of the proof that ForwardNone of law 21 returns true whatever it is called with. No condition. -/
set_option linter.all false
/- ForwardNone of law 21 returns true, whatever it is called with. No condition. -/
namespace Go.Proofs.YtaalpiacinifkaaGreatDoor.fwNone
open Go.ChangeShapes Go.WideShapes Go.ChangeAt Go.RowKit Go.Sx Go.Fx

def rangeCells : List Int := [128, 191, 160, 191, 128, 159, 144, 191, 128, 143, 0, 0, 0, 0, 0, 0, 0, 0, 0, 0, 0, 0, 0, 0, 0, 0, 0, 0, 0, 0, 0, 0]
def layWith (cs : Array Value) : Obj → Obj
  | .cells _ t frozen => .cells cs t frozen
  | o => o
/-- A world for the witness: the settled one, the three tables holding what they are laid with. -/
noncomputable def laidWorld (os : Os) : World :=
  { World.holding Tryz.prog os ⟨#[], #[], []⟩ with
    heap := (((World.holding Tryz.prog os ⟨#[], #[], []⟩).heap.modify 0 (layWith (nib.map (Value.int .u32)).toArray)).modify 2 (layWith (Go.Pinned.utf8FirstZ.map fun z => Value.int .u8 (Int.ofNat z)).toArray)).modify 3 (layWith (rangeCells.map (Value.int .u8)).toArray) }
def wArgs : Array Value := #[.int .i64 0, .string ⟨#[]⟩, .agg #[.bool false, .string ⟨#[]⟩]]
theorem laid_met (os : Os) : laidMet Tryz.prog Rows.forwardNoneRow.laid ((laidWorld os).forCall (fun _ _ => 0) ⟨#[], wArgs, []⟩).memory :=
  laidMet_of_run' 8 (by kernel_rfl) (by kernel_rfl)
theorem reads (os : Os) {H : Type} (enc : TypeId × Value → H) : ∃ places, DataW.whole enc Tryz.prog ((laidWorld os).forCall (fun _ _ => 0) ⟨#[], wArgs, []⟩).memory Tryz.f4.params.toList Rows.forwardNoneSpec.vars false wArgs.toList 8 = some ([.lit (.int .i64 0), .lit (.string []), .agg [.lit (.bool false), .lit (.string [])]], [], places) :=
  ⟨[], by kernel_rfl⟩

set_option maxRecDepth 100000 in
theorem lifted (os : Os) (started : os.Started) (H : Type) (enc : TypeId × Value → H) (F : Stop.Interp) :
    ReturnsInHanded {} Tryz.checked os 4 .any ((OpenSpec.ofChange Rows.forwardNoneSpec).preRow enc Tryz.prog Tryz.f4 Rows.forwardNoneRow.domain false Rows.forwardNoneRow.laid) (((OpenSpec.ofChange Rows.forwardNoneSpec).at F).post enc Tryz.prog Tryz.f4 false true false false) := by
  obtain ⟨places, hx⟩ := reads os enc
  refine returnsInHanded_of_row (C := Tryz.checked) (s := OpenSpec.ofChange Rows.forwardNoneSpec) own started (by kernel_rfl) Tryz.func4
    (witness_row_at (enc := enc) (C := Tryz.checked) false (laidWorld os) wArgs rfl (by kernel_rfl) (by kernel_rfl) (by kernel_rfl)
      (OpenSpec.preRow_of_cond 8 hx (by kernel_rfl) (fun k hk => by cases hk) (by kernel_rfl) (laid_met os))) ?_
  intro W base args ds gs before hval hW _ _ _ hL hS _
  exact contract H enc W base args ds gs before hval hW hL hS

end Go.Proofs.YtaalpiacinifkaaGreatDoor.fwNone
