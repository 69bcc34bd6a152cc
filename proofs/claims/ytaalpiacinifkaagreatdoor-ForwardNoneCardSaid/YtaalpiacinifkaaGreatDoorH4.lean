import Derived.Test.YtaalpiacinifkaaGreatDoorH3
import Derived.Test.YtaalpiacinifkaaGreatDoorCards
import Derived.Test.YtaalpiacinifkaaGreatDoorTie
import Derived.WalkKit
import Derived.ProofKit
import Derived.OpenShut
import Derived.Deep.DeepHandedRow
import Derived.Lib.LaidTab
/- Part of the proof that ForwardNone of law 21 returns true whatever it is called with. No condition. -/
set_option linter.all false
/- ForwardNone of law 21 returns true, whatever it is called with. No condition. -/
namespace Go.Proofs.YtaalpiacinifkaaGreatDoor.fwNone
open Go.ChangeShapes Go.WideShapes Go.ChangeAt Go.RowKit Go.Sx Go.Fx

section
variable {H : Type} {enc : TypeId × Value → H} {P : Program}
/-- As the kit's 'post_of_same': what is frozen is asked of the places that were read alone. -/
theorem post_same2 {f : Func} {s : ChangeSpec} {apart fresh handsOn again : Bool} {W W' : World} {args : Array Value} {v : Value} {ds gs : List (DataW H)} {before pa pv : List MemPlace}
    (hW : DataW.Whole enc P f.params.toList s.vars apart W args.toList ds gs before)
    (hres : ∀ (b : Nat) (sp : Nat → Bool) (hd : Bool), DataW.TrodAll enc P W' b sp hd f.resultTypes.toList (v.resultList f.resultTypes.size) (s.fn H (ds ++ gs)).results [])
    (hargs : ∀ sp : Nat → Bool, (∀ p ∈ before, sp p.block = true) → DataW.TrodAll enc P W' 0 sp true f.params.toList args.toList (s.fn H (ds ++ gs)).args pa)
    (hvars : ∀ sp : Nat → Bool, (∀ p ∈ before, sp p.block = true) → DataW.TrodVars enc P W' sp s.vars (s.fn H (ds ++ gs)).vars pv)
    (hps : before = pa ++ pv) (hk : W.keptBut W' (· ∈ before)) (hfz : ∀ b off, MemPlace.cell b off ∈ before → W'.frozen? ⟨b, off, none⟩ = W.frozen? ⟨b, off, none⟩)
    (hok : ∀ (j : Nat) (t : TypeId) (r : Value), f.resultTypes[j]? = some t → (v.resultList f.resultTypes.size)[j]? = some r → Value.okWide P W' .any 0 t r) :
    s.post enc P f apart fresh handsOn again W args v W' := by
  have hold : ∀ p ∈ before, (fun b => decide (b < W.heap.size)) p.block = true := fun p hp => by simpa using hW.lt p hp
  refine ⟨ds, gs, before, [], pa, pv, hW, hres _ _ _, hargs _ hold, hvars _ hold, World.keptBut_mono (fun p hp => ⟨hp, ?_⟩) hk, fun _ => ?_⟩
  · rw [hps, List.mem_append] at hp
    exact Or.inr hp
  · obtain ⟨_, _, _, _, _, hz, hn⟩ := hW
    refine ⟨hok, _, _, ([] ++ pa) ++ pv, ⟨[] ++ pa, pv, trodAll_append (hargs _ (fun _ _ => rfl)) (hres _ _ _), hvars _ (fun _ _ => rfl), rfl, ?_, ?_⟩, ?_⟩
    · intro b off hp
      have hp : MemPlace.cell b off ∈ before := by rw [hps]; simpa using hp
      rw [hfz b off hp]
      exact hz b off hp
    · intro ha
      have := hn ha
      rw [hps] at this
      simpa using this
    · intro p hp _
      rw [hps]
      simpa using hp
end
theorem kept_of_eq {w w' : World} (h1 : w'.os = w.os) (h2 : w'.output = w.output) (h3 : ∀ i, i < w.heap.size → w'.heap[i]? = w.heap[i]?) (may : MemPlace → Prop) : w.keptBut w' may := by
  refine ⟨h1, h2, fun i hi => ?_⟩
  rw [h3 i hi]
  cases w.heap[i]? with
  | none => rfl
  | some o => cases o <;> simp
/-- All blocks but the first. -/
def restOf (w : World) : List (Nat × Obj) := (List.range' 1 (w.heap.size - 1)).map fun i => (i, (w.heap[i]?).getD (.cells #[] 0))
theorem own_all {w : World} {o : Obj} (h : w.heap[0]? = some o) : OwnL w ((0, o) :: restOf w) := by
  have h0 : 0 < w.heap.size := (Array.getElem?_eq_some_iff.1 h).1
  have hm : ((0, o) :: restOf w).map Prod.fst = 0 :: List.range' 1 (w.heap.size - 1) := by
    simp [restOf, List.map_map, Function.comp_def]
  refine ⟨?_, fun x hx => ?_⟩
  · rw [hm]
    refine List.nodup_cons.2 ⟨by simp [List.mem_range'_1], List.nodup_range'⟩
  · rcases List.mem_cons.1 hx with rfl | hx
    · exact h
    · obtain ⟨i, hi, rfl⟩ := List.mem_map.1 hx
      have hi2 : i < w.heap.size := by have := List.mem_range'_1.1 hi; omega
      simp [hi2]
theorem kept_all {w w' : World} {o : Obj} {A B : List (Nat × Obj)} (h : w.heap[0]? = some o) (hw : OwnL w' (A ++ [(0, o)] ++ B ++ restOf w)) : ∀ i, i < w.heap.size → w'.heap[i]? = w.heap[i]? := by
  intro i hi
  cases i with
  | zero => rw [h]; exact hw.2 (0, o) (by simp)
  | succ i =>
    have : (i + 1, (w.heap[i + 1]?).getD (.cells #[] 0)) ∈ restOf w := List.mem_map.2 ⟨i + 1, List.mem_range'_1.2 ⟨by omega, by omega⟩, rfl⟩
    rw [hw.2 _ (List.mem_append_right _ this)]
    simp [hi]
theorem row0 : (((begin Tryz.prog (fun _ _ => 0) default).world.heap[0]?).bind Obj.row?).map (·.2) = some 404 := by kernel_rfl
theorem gz : 0 < Tryz.prog.globals.size := of_decide_eq_true (by kernel_rfl)
theorem shaped0 {w : World} (h : w.ShapedOpen Tryz.prog) : ∃ cs, w.heap[0]? = some (.cells cs 404) := by
  obtain ⟨h1, _⟩ := h
  cases hr : ((begin Tryz.prog (fun _ _ => 0) default).world.heap[0]?).bind Obj.row? with
  | none => have := row0; rw [hr] at this; simp at this
  | some x =>
    obtain ⟨z, t⟩ := x
    have ht := row0
    rw [hr] at ht
    simp only [Option.map_some, Option.some.injEq] at ht
    subst ht
    obtain ⟨cs, hc, _⟩ := h1 0 z 404 gz hr
    exact ⟨cs, hc⟩
theorem gNib : Tryz.prog.globalNamed "quadriga/sum.nibbles" = some 0 := by kernel_rfl
theorem gNibType : (Tryz.prog.globals[0]?).map (·.type) = some 404 := by kernel_rfl
theorem cells404 : Tryz.prog.cellsOf 404 = 16 := by kernel_rfl
theorem cells248 : Tryz.prog.cellsOf 248 = 1 := by kernel_rfl
theorem nib_data : (Rows.laid_quadriga_sum_nibbles : DataW Unit) = Lib.tabData .u32 nib := by kernel_rfl
/-- The first block holds the table. -/
theorem block0 {w : World} (hs : w.ShapedOpen Tryz.prog) (h : laidMetH Tryz.prog Rows.forwardNoneRow.laid w) : w.heap[0]? = some (.cells (nib.map (Value.int .u32)).toArray 404) := by
  obtain ⟨cs0, hc⟩ := shaped0 hs
  have h : laidMet Tryz.prog Rows.forwardNoneRow.laid w := h
  obtain ⟨ps, ⟨g1, t1, cs1, f1, p1, q1, _, _, _, _, ⟨g, t, cs, fuel, p, q, hg, ht, hvar, hd, _, _⟩, _⟩, _⟩ := h
  obtain rfl := Option.some.inj (gNib.symm.trans hg)
  obtain rfl := Option.some.inj (gNibType.symm.trans ht)
  have hv : w.var? Tryz.prog "quadriga/sum.nibbles" = some cs0 := by
    unfold World.var?
    rw [gNib]
    simp only [Option.bind_some, hc]
  rw [hvar] at hv
  obtain rfl := Option.some.inj hv
  rw [nib_data] at hd
  rw [hc, ← Lib.cells_of_tab Tryz.underlying404 Tryz.underlying248 cells248 cells404 hd]
end Go.Proofs.YtaalpiacinifkaaGreatDoor.fwNone
