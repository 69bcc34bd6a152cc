import Derived.Test.YtaalpiacinifkaaGreatDoorS1
/- Part of the proof that ForwardNone of law 21 returns true whatever it is called with. No condition. -/
set_option linter.all false
/- The symbolic executor 'Sx': literals of structs and rows; new objects. -/
namespace Go.Sx
open Go

theorem foldSet : ∀ (l : List Value) (off s : Nat) (cs : Array Value), off + s + l.length ≤ cs.size →
    (((l.zipIdx s).foldl (fun (cs : Array Value) (x : Value × Nat) => cs.setIfInBounds (off + x.2) x.1) cs).size = cs.size) ∧
    ∀ j, ((l.zipIdx s).foldl (fun (cs : Array Value) (x : Value × Nat) => cs.setIfInBounds (off + x.2) x.1) cs)[j]? = if off + s ≤ j ∧ j < off + s + l.length then l[j - (off + s)]? else cs[j]?
  | [], off, s, cs, _ => by
    refine ⟨by simp, fun j => ?_⟩
    simp; intro h1 h2; omega
  | x :: r, off, s, cs, h => by
    simp only [List.zipIdx_cons, List.foldl_cons]
    simp only [List.length_cons] at h
    have ih := foldSet r off (s + 1) (cs.setIfInBounds (off + s) x) (by simp; omega)
    refine ⟨by rw [ih.1]; simp, fun j => ?_⟩
    rw [ih.2 j]
    by_cases hj : j = off + s
    · subst hj
      rw [if_neg (by omega), if_pos (by simp)]
      rw [Array.getElem?_setIfInBounds_self, if_pos (by omega)]
      simp
    · by_cases hin : off + (s + 1) ≤ j ∧ j < off + (s + 1) + r.length
      · rw [if_pos hin, if_pos (by simp; omega)]
        have : j - (off + s) = (j - (off + (s + 1))) + 1 := by omega
        rw [this, List.getElem?_cons_succ]
      · rw [if_neg hin, if_neg (by simp; omega), Array.getElem?_setIfInBounds_ne (by omega)]
theorem over_oks {N : Nat} {ids : Nat → Nat} {l r ys : List SV} {o : Nat} (h : over l o ys = some r) (h1 : SV.oks N ids l) (h2 : l.all SV.one = true) (h3 : SV.oks N ids ys) (h4 : ys.all SV.one = true) : SV.oks N ids r ∧ r.all SV.one = true := by
  obtain ⟨_, _, h5⟩ := over_spec h
  have : ∀ x ∈ r, x ∈ l ∨ x ∈ ys := by
    intro x hx
    obtain ⟨j, hj⟩ := List.getElem?_of_mem hx
    rw [h5 j] at hj
    split at hj
    · exact .inr (List.mem_of_getElem? hj)
    · exact .inl (List.mem_of_getElem? hj)
  refine ⟨(oks_iff _ _ _).2 fun x hx => ?_, List.all_eq_true.2 fun x hx => ?_⟩
  · rcases this x hx with h | h
    · exact (oks_iff _ _ _).1 h1 x h
    · exact (oks_iff _ _ _).1 h3 x h
  · rcases this x hx with h | h
    · exact List.all_eq_true.1 h2 x h
    · exact List.all_eq_true.1 h4 x h
theorem over_dens (ids : Nat → Nat) {l r ys : List SV} {o : Nat} (h : over l o ys = some r) :
    (((SV.dens ids ys).zipIdx 0).foldl (fun (cs : Array Value) (x : Value × Nat) => cs.setIfInBounds (o + x.2) x.1) (SV.dens ids l).toArray) = (SV.dens ids r).toArray := by
  obtain ⟨h1, h2, h3⟩ := over_spec h
  have := foldSet (SV.dens ids ys) o 0 (SV.dens ids l).toArray (by simp [dens_eq]; omega)
  apply Array.ext_getElem?
  intro j
  rw [this.2 j]
  simp only [dens_eq, List.getElem?_toArray, List.getElem?_map, List.length_map, Nat.add_zero, h3 j]
  split <;> simp
/-- A literal's parts, laid over a row. -/
theorem buildP_sound {P : Program} {e : Env} (he : e.Ok) {place : Nat → Option (Nat × Nat)} : ∀ {ps : List (Nat × Operand)} {cs r : List SV}, buildP P e.gl e.H e.fr place cs ps = some r → inX e.X (ps.map (·.2)) →
    SV.oks e.H.length e.H.ids cs → cs.all SV.one = true →
    Instr.fill place (SV.dens e.H.ids cs).toArray (ps.map fun (i, x) => (i, e.a.eval x)) = some (SV.dens e.H.ids r).toArray ∧ SV.oks e.H.length e.H.ids r ∧ r.all SV.one = true
  | [], cs, r, h, _, h1, h2 => by simp only [buildP, Option.some.injEq] at h; subst h; simp [Instr.fill, h1, h2]
  | (i, x) :: ps, cs, r, h, hx, h1, h2 => by
    simp only [List.map_cons] at hx
    obtain ⟨hx1, hx2⟩ := inX_cons.1 hx
    simp only [buildP] at h
    split at h
    · rename_i off size hp
      split at h
      · rename_i v hv
        split at h
        · rename_i l hl
          split at h
          · rename_i hlen
            have hlen := Nat.eq_of_beq_eq_true hlen
            split at h
            · rename_i cs' hcs'
              have e1 := opv_sound he hv hx1
              have e2 := svCells_sound hl e1.2
              have e3 := over_oks hcs' h1 h2 e2.2.1 e2.2.2
              have ih := buildP_sound he h hx2 e3.1 e3.2
              obtain ⟨o1, o2, o3⟩ := over_spec hcs'
              refine ⟨?_, ih.2⟩
              simp only [List.map_cons, Instr.fill, hp, e1.1, e2.1]
              rw [if_neg (by simp [dens_eq]; omega)]
              rw [← ih.1]
              congr 1
              have := over_dens e.H.ids hcs'
              rw [← this]
              simp
            · simp at h
          · simp at h
        · simp at h
      · simp at h
    · simp at h
theorem fieldT_sound {P : Program} {t i off size : Nat} {ft : TypeId} (h : fieldT P t i = some (off, size, ft)) : ∃ fs f, P.underlying t = some (.struct fs) ∧ fs[i]? = some f ∧ f.offset = off ∧ f.type = ft ∧ P.cellsOf ft = size ∧ ∀ w, (sizeOf ft).run P w = .ok size w := by
  unfold fieldT at h
  split at h
  · rename_i fs hu
    split at h
    · rename_i f hf
      split at h
      · rename_i info hi
        simp only [Option.some.injEq, Prod.mk.injEq] at h
        obtain ⟨rfl, rfl, rfl⟩ := h
        refine ⟨fs, f, hu, by simpa using hf, rfl, rfl, by simp [Program.cellsOf, hi], fun w => by simp [sizeOf, typeInfo, hi]⟩
      · simp at h
    · simp at h
  · simp at h
theorem mapM_places {P : Program} (w : World) : ∀ (l : List Field), (∀ f ∈ l, ∃ i, P.info? f.type = some i) →
    (l.mapM (fun (f : Field) => (do pure (f.offset, ← sizeOf f.type) : Sem (Nat × Nat)))).run P w = .ok (l.map fun f => (f.offset, P.cellsOf f.type)) w
  | [], _ => by rw [List.mapM_nil]; rfl
  | f :: r, h => by
    obtain ⟨i, hi⟩ := h f (by simp)
    have ih := mapM_places w r (fun g hg => h g (by simp [hg]))
    have hs : (sizeOf f.type).run P w = .ok (P.cellsOf f.type) w := by simp [sizeOf, typeInfo, hi, Program.cellsOf]
    simp only [List.mapM_cons, Sem.run_bind, hs, Result.andThen_ok, Sem.run_pure, ih, List.map_cons]
theorem places_run {P : Program} (w : World) (fs : Array Field) (h : ∀ f ∈ fs.toList, ∃ i, P.info? f.type = some i) :
    (fs.mapM (fun (f : Field) => (do pure (f.offset, ← sizeOf f.type) : Sem (Nat × Nat)))).run P w = .ok (fs.toList.map fun f => (f.offset, P.cellsOf f.type)).toArray w := by
  rw [Array.mapM_eq_mapM_toList]
  simp only [Sem.run_map, mapM_places w fs.toList h, Result.andThen_ok]
theorem placeT_eq (P : Program) (fs : List Field) : ((fs.map fun f => (f.offset, P.cellsOf f.type)).toArray[·]?) = placeT P fs := by
  funext i
  simp only [List.getElem?_toArray, List.getElem?_map, placeT, nthO_eq]
  cases fs[i]? <;> rfl
/-- A struct's literal. -/
theorem build_struct {P : Program} {e : Env} (he : e.Ok) {t : TypeId} {fs : Array Field} {z r : List SV} {ps : Array (Nat × Operand)} (hz : zeroT P t = some z) (hu : P.underlying t = some (.struct fs))
    (hall : fs.toList.all (fun f => (P.info? f.type).isSome) = true) (h : buildP P e.gl e.H e.fr (placeT P fs.toList) z ps.toList = some r) (hx : inX e.X (ps.toList.map (·.2))) (w : World) :
    (Instr.build t (ps.map fun (i, x) => (i, e.a.eval x))).run P w = .ok ((SV.agg r).den e.H.ids) w ∧ (SV.agg r).ok e.H.length e.H.ids := by
  obtain ⟨zv, hzr, hzc, hz1, hz2⟩ := zeroT_sound hz e.H.length e.H.ids
  have hb := buildP_sound he h hx hz1 hz2
  refine ⟨?_, hb.2⟩
  have hp := places_run (P := P) w fs (fun f hf => Option.isSome_iff_exists.1 (List.all_eq_true.1 hall f hf))
  have hl : (ps.map fun (x : Nat × Operand) => (x.1, e.a.eval x.2)).toList = ps.toList.map fun (i, x) => (i, e.a.eval x) := by simp
  simp only [Instr.build, Sem.run_bind, hzr, Result.andThen_ok, underlying_run hu, hp, placeT_eq, hzc, hl, hb.1, Sem.run_pure, SV.den]
theorem build_array {P : Program} {e : Env} (he : e.Ok) {t n el : TypeId} {z r : List SV} {ps : Array (Nat × Operand)} (hz : zeroT P t = some z) (hu : P.underlying t = some (.array n el)) {d : TypeDesc} (hd : P.underlying el = some d)
    (h : buildP P e.gl e.H e.fr (fun i => some (i * P.cellsOf el, P.cellsOf el)) z ps.toList = some r) (hx : inX e.X (ps.toList.map (·.2))) (w : World) :
    (Instr.build t (ps.map fun (i, x) => (i, e.a.eval x))).run P w = .ok ((SV.agg r).den e.H.ids) w ∧ (SV.agg r).ok e.H.length e.H.ids := by
  obtain ⟨zv, hzr, hzc, hz1, hz2⟩ := zeroT_sound hz e.H.length e.H.ids
  have hb := buildP_sound he h hx hz1 hz2
  refine ⟨?_, hb.2⟩
  have hl : (ps.map fun (x : Nat × Operand) => (x.1, e.a.eval x.2)).toList = ps.toList.map fun (i, x) => (i, e.a.eval x) := by simp
  simp only [Instr.build, Sem.run_bind, hzr, Result.andThen_ok, underlying_run hu, sizeOf_run hd, hzc, hl, hb.1, Sem.run_pure, SV.den]
end Go.Sx

/- The symbolic executor 'Sx': slices, indexes, fields. -/
namespace Go.Sx
open Go

theorem extract_mk (l : List UInt8) (a b : Nat) : (ByteArray.mk l.toArray).extract a b = ByteArray.mk ((l.drop a).take (b - a)).toArray := by
  apply ByteArray.ext
  simp [List.extract_eq_take_drop]
theorem asIntOf_run {P : Program} (k : IntKind) (a : Int) (w : World) : (asIntOf (.int k a)).run P w = .ok (k, a) w := rfl
theorem asInt_run {P : Program} (k : IntKind) (a : Int) (w : World) : (asInt (.int k a)).run P w = .ok a w := rfl
theorem sliceBound_run {P : Program} {k : IntKind} {a : Int} {y : Nat} (h0 : 0 ≤ a) (h1 : a ≤ y) (code : BoundsCode) (w : World) : (Instr.sliceBound (.int k a) y code).run P w = .ok a.toNat w := by
  simp only [Instr.sliceBound, Sem.run_bind, asIntOf_run, Result.andThen_ok]
  rw [if_pos ⟨h0, h1⟩]; rfl
/-- A bound that is given, or isn't. -/
def BoundIs (d : Nat) (o : Option Value) (a : Int) : Prop := (o = none ∧ a = d) ∨ ∃ k, o = some (.int k a)
theorem optI_sound {e : Env} (he : e.Ok) {d : Int} {n : Nat} (hd : d = n) {o : Option Operand} {a : Int} (h : optI e.gl e.H e.fr d o = some a) (hx : inX e.X o.toList) : BoundIs n (o.map e.a.eval) a := by
  unfold optI at h
  split at h
  · simp only [Option.some.injEq] at h; exact .inl ⟨rfl, by rw [← h, hd]⟩
  · rename_i x
    split at h
    · rename_i v hv
      split at h
      · rename_i l k b hb
        simp only [Option.some.injEq] at h; subst h
        have := (opv_sound he hv hx).1
        exact .inr ⟨k, by simp [this, isInt_den hb]⟩
      · simp at h
    · simp at h
theorem sliceBounds_run {P : Program} {isSlice : Bool} {len cap : Nat} {lo hi mx : Option Value} {a h m : Int} (ha : BoundIs 0 lo a) (hh : BoundIs len hi h) (hm : BoundIs cap mx m)
    (hmx : mx.isSome = true → hi.isSome = true) (h0 : 0 ≤ a) (h1 : a ≤ h) (h2 : h ≤ m) (h3 : m ≤ cap) (w : World) :
    (Instr.sliceBounds isSlice len cap lo hi mx).run P w = .ok (a.toNat, h.toNat, m.toNat) w := by
  have hmn : 0 ≤ m := by omega
  rcases hm with ⟨rfl, rfl⟩ | ⟨km, rfl⟩
  · rcases hh with ⟨rfl, rfl⟩ | ⟨kh, rfl⟩
    · rcases ha with ⟨rfl, rfl⟩ | ⟨ka, rfl⟩
      · simp [Instr.sliceBounds]
      · simp only [Instr.sliceBounds, Sem.run_bind, Sem.run_pure, Result.andThen_ok, sliceBound_run h0 h1]; simp
    · have hh0 : 0 ≤ h := by omega
      rcases ha with ⟨rfl, rfl⟩ | ⟨ka, rfl⟩
      · simp only [Instr.sliceBounds, Sem.run_bind, Sem.run_pure, Result.andThen_ok, sliceBound_run hh0 h2]; simp
      · have : a ≤ (h.toNat : Int) := by omega
        simp only [Instr.sliceBounds, Sem.run_bind, Sem.run_pure, Result.andThen_ok, sliceBound_run hh0 h2, sliceBound_run h0 this]; simp
  · rcases hh with ⟨rfl, rfl⟩ | ⟨kh, rfl⟩
    · simp at hmx
    · have hh0 : 0 ≤ h := by omega
      have hhm : h ≤ (m.toNat : Int) := by omega
      rcases ha with ⟨rfl, rfl⟩ | ⟨ka, rfl⟩
      · simp only [Instr.sliceBounds, Sem.run_bind, Sem.run_pure, Result.andThen_ok, sliceBound_run hmn h3, sliceBound_run hh0 hhm]; simp
      · have : a ≤ (h.toNat : Int) := by omega
        simp only [Instr.sliceBounds, Sem.run_bind, Sem.run_pure, Result.andThen_ok, sliceBound_run hmn h3, sliceBound_run hh0 hhm, sliceBound_run h0 this]
theorem sliceAt_eq {P : Program} {t : TypeId} {d : TypeDesc} (hu : P.underlying t = some d) (hd : ∀ n e, d ≠ .array n e) (x : Value) (lo hi mx : Option Value) (w : World) :
    (Instr.sliceAt t x lo hi mx).run P w = (Instr.slice t x lo hi mx).run P w := by
  simp only [Instr.sliceAt, Sem.run_bind, underlying_run hu, Result.andThen_ok]
theorem slice_string {P : Program} {t : TypeId} (hu : P.underlying t = some .string) {l : List UInt8} {lo hi : Option Value} {a h : Int} (ha : BoundIs 0 lo a) (hh : BoundIs l.length hi h) (h0 : 0 ≤ a) (h1 : a ≤ h) (h2 : h ≤ l.length) (w : World) :
    (Instr.sliceAt t (.string ⟨l.toArray⟩) lo hi none).run P w = .ok (.string ⟨((l.drop a.toNat).take (h.toNat - a.toNat)).toArray⟩) w := by
  rw [sliceAt_eq hu (by simp)]
  have hb := sliceBounds_run (P := P) (isSlice := false) (len := (ByteArray.mk l.toArray).size) (cap := (ByteArray.mk l.toArray).size) (mx := none) ha (by rw [size_mk]; exact hh) (.inl ⟨rfl, rfl⟩) (by simp) h0 h1 (by rw [size_mk]; omega) (Int.le_refl _) w
  simp only [Instr.slice, Sem.run_bind, underlying_run hu, Result.andThen_ok, Option.isSome_none, Bool.false_eq_true, if_false, hb, Sem.run_pure, extract_mk]
theorem slice_slice {P : Program} {t el : TypeId} (hu : P.underlying t = some (.slice el)) {d : TypeDesc} (hd : P.underlying el = some d) {ad : Option Addr} {len cap : Nat} {lo hi mx : Option Value} {a h m : Int}
    (ha : BoundIs 0 lo a) (hh : BoundIs len hi h) (hm : BoundIs cap mx m) (hmx : mx.isSome = true → hi.isSome = true) (h0 : 0 ≤ a) (h1 : a ≤ h) (h2 : h ≤ m) (h3 : m ≤ cap) (w : World) :
    (Instr.sliceAt t (.slice ad len cap) lo hi mx).run P w = .ok (.slice (if m.toNat = a.toNat then ad else ad.map (·.add (a.toNat * P.cellsOf el))) (h.toNat - a.toNat) (m.toNat - a.toNat)) w := by
  rw [sliceAt_eq hu (by simp)]
  simp only [Instr.slice, Sem.run_bind, underlying_run hu, Result.andThen_ok, sliceBounds_run ha hh hm hmx h0 h1 h2 h3, sizeOf_run hd, Sem.run_pure]
theorem indexAt_slice {P : Program} {t el : TypeId} (hu : P.underlying t = some (.slice el)) {d : TypeDesc} (hd : P.underlying el = some d) {b off len cap : Nat} {k : IntKind} {i : Int} (h0 : 0 ≤ i) (h1 : i < len) (w : World) :
    (Instr.indexAt t (.slice (some ⟨b, off, none⟩) len cap) (.int k i)).run P w = .ok (.pointer (some ⟨b, off + i.toNat * P.cellsOf el, none⟩)) w := by
  simp only [Instr.indexAt, Sem.run_bind, asIntOf_run, Result.andThen_ok, underlying_run hu, Sem.run_pure]
  rw [if_pos ⟨h0, h1⟩]
  simp only [Sem.run_bind, sizeOf_run hd, Result.andThen_ok, Sem.run_pure, addr_add]
theorem indexAt_array {P : Program} {t n el : TypeId} (hu : P.underlying t = some (.array n el)) {d : TypeDesc} (hd : P.underlying el = some d) {b off : Nat} {k : IntKind} {i : Int} (h0 : 0 ≤ i) (h1 : i < n) (w : World) :
    (Instr.indexAt t (.pointer (some ⟨b, off, none⟩)) (.int k i)).run P w = .ok (.pointer (some ⟨b, off + i.toNat * P.cellsOf el, none⟩)) w := by
  simp only [Instr.indexAt, Sem.run_bind, asIntOf_run, Result.andThen_ok, underlying_run hu, Sem.run_pure, Instr.sureAddr]
  rw [if_pos ⟨h0, h1⟩]
  simp only [Sem.run_bind, sizeOf_run hd, Result.andThen_ok, Sem.run_pure, addr_add]
theorem index_string {P : Program} {t : TypeId} (hu : P.underlying t = some .string) {l : List UInt8} {k : IntKind} {i : Int} (h0 : 0 ≤ i) (h1 : i < l.length) (w : World) :
    (Instr.index t (.string ⟨l.toArray⟩) (.int k i)).run P w = .ok (.int .u8 (l.getD i.toNat 0).toNat) w := by
  have hi : i.toNat < l.length := by omega
  have : (ByteArray.mk l.toArray)[i.toNat]? = some l[i.toNat] := by
    rw [getElem?_pos (ByteArray.mk l.toArray) i.toNat (by rw [size_mk]; exact hi)]
    rfl
  simp only [Instr.index, Sem.run_bind, asIntOf_run, Result.andThen_ok, underlying_run hu, h0, if_true, this, Sem.run_pure]
  simp [List.getD, hi]
theorem fieldAt_run {P : Program} {t i off size : Nat} {ft : TypeId} (h : fieldT P t i = some (off, size, ft)) (hs : size ≠ 0) {b o : Nat} (w : World) :
    (Instr.fieldAt t (.pointer (some ⟨b, o, none⟩)) i).run P w = .ok (.pointer (some ⟨b, o + off, none⟩)) w := by
  obtain ⟨fs, f, hu, hf, rfl, rfl, hc, hsz⟩ := fieldT_sound h
  simp only [Instr.fieldAt, Sem.run_bind, underlying_run hu, Result.andThen_ok, hf, Instr.sureAddr, Sem.run_pure, fieldPlace, hsz]
  rw [if_neg hs]
  simp only [Sem.run_pure, addr_add, Result.andThen_ok]
theorem field_run {P : Program} {t i off size : Nat} {ft : TypeId} (h : fieldT P t i = some (off, size, ft)) {cs : List SV} {v : SV} (hp : partS P ft cs off = some v) {N : Nat} {ids : Nat → Nat} (hok : SV.oks N ids cs) (hone : cs.all SV.one = true) (w : World) :
    (Instr.field t (.agg (SV.dens ids cs).toArray) i).run P w = .ok (v.den ids) w ∧ v.ok N ids := by
  obtain ⟨fs, f, hu, hf, rfl, rfl, hc, hsz⟩ := fieldT_sound h
  have := partS_sound hp hok hone w
  refine ⟨?_, this.2⟩
  simp only [Instr.field, Sem.run_bind, underlying_run hu, Result.andThen_ok, hf, asAgg, Sem.run_pure, this.1]
end Go.Sx

/- The symbolic executor 'Sx': quiet operations, whole. -/
namespace Go.Sx
open Go

def plainA : Value → Bool
  | .int _ _ | .float _ _ | .complex _ _ _ | .string _ | .nilIface => false
  | _ => true
theorem binOp_eql {t : TypeId} {a b : Value} (h : plainA a = true) : binOp .eql t a b = (do pure (.bool (← Op.equal t a b))) := by
  cases a <;> first | (simp [plainA] at h; done) | rfl
theorem binOp_neq {t : TypeId} {a b : Value} (h : plainA a = true) : binOp .neq t a b = (do pure (.bool (!(← Op.equal t a b)))) := by
  cases a <;> first | (simp [plainA] at h; done) | rfl
theorem neq_of_eql {P : Program} {t : TypeId} {a b : Value} {q : Bool} {w : World} (h1 : plainA a = true) (h : (binOp .eql t a b).run P w = .ok (.bool q) w) : (binOp .neq t a b).run P w = .ok (.bool (!q)) w := by
  rw [binOp_eql h1] at h
  rw [binOp_neq h1]
  simp only [Sem.run_bind, Sem.run_pure] at h ⊢
  cases hr : (Op.equal t a b).run P w with
  | ok r w' => rw [hr] at h; simp at h ⊢; obtain ⟨rfl, rfl⟩ := h; exact ⟨rfl, rfl⟩
  | halt x w' => rw [hr] at h; simp at h
theorem eqGuard_run {P : Program} {op : BinOp} {t : TypeId} {x y : Operand} {a b : Value} (h1 : plainA a = true) (h : (∃ cs, a = .agg cs) → P.eqGuardType P.depth t = false) (w : World) : (eqGuard op t x y a b).run P w = .ok () w := by
  unfold eqGuard
  generalize (!(match op with | .eql | .neq => true | _ => false)) = q
  cases q
  · cases a <;> first
      | (simp [plainA] at h1; done)
      | rfl
      | (have := h ⟨_, rfl⟩
         cases b <;> first | rfl | simp [this])
  · rfl
theorem eqGuard_other {P : Program} {op : BinOp} {t : TypeId} {x y : Operand} {a b : Value} (h1 : (∃ k n, a = .int k n) ∨ ∃ s, a = .string s) (w : World) : (eqGuard op t x y a b).run P w = .ok () w := by
  unfold eqGuard
  generalize (!(match op with | .eql | .neq => true | _ => false)) = q
  cases q
  · rcases h1 with ⟨k, n, rfl⟩ | ⟨s, rfl⟩ <;> rfl
  · rfl
theorem eqS_agg {P : Program} {d : Nat} {t : TypeId} {x y : SV} {r : Bool} (h : eqS P d t x y = some r) (hx : isInt x = none) (hs : ∀ s, x ≠ .str s) (ids : Nat → Nat) : plainA (x.den ids) = true := by
  cases d with
  | zero => simp [eqS] at h
  | succ d =>
    simp only [eqS] at h
    split at h
    · rw [hx] at h; simp at h
    · split at h
      · rename_i l t hb; rw [isBool_den hb]; rfl
      · simp at h
    · simp at h
    · split at h
      · simp at h
      · split at h
        · simp [SV.den, plainA]
        · simp at h
    · simp at h
theorem eqNilM_sound {P : Program} {x r : SV} {vc : Prop} (h : eqNilM x = some (r, vc)) (hvc : vc) (t k e : TypeId) (ht : P.underlying t = some (.map k e)) (w : World) (N : Nat) (ids : Nat → Nat) :
    ∃ q, r.den ids = .bool q ∧ r.ok N ids ∧ (binOp .eql t (x.den ids) (.map none)).run P w = .ok (.bool q) w ∧ mapV (x.den ids) = true := by
  have key := map_nil t k e ht w
  unfold eqNilM at h
  split at h <;> first
    | (simp at h; done)
    | (simp only [Option.some.injEq, Prod.mk.injEq] at h
       obtain ⟨rfl, rfl⟩ := h)
  · exact ⟨true, by simp [SV.den], by simp [SV.ok], key none, rfl⟩
  · exact ⟨false, by simp [SV.den], by simp [SV.ok], key (some _), rfl⟩
  · rename_i y
    refine ⟨nilM y, by simp [SV.den], by simp [SV.ok], ?_⟩
    cases y <;> simp [mapV] at hvc
    rename_i a
    cases a
    · exact ⟨key none, rfl⟩
    · exact ⟨key (some _), rfl⟩
theorem slice_nil {P : Program} (t e : TypeId) (ht : P.underlying t = some (.slice e)) (w : World) (a : Option Addr) (n c m d : Nat) :
    (binOp .eql t (.slice a n c) (.slice none m d)).run P w = .ok (.bool a.isNone) w := by
  have h : ∀ k, (Op.equalIn (k + 1) t (.slice a n c) (.slice none m d)).run P w = .ok a.isNone w := by
    intro k; cases a <;> simp [Op.equalIn, underlying, ht]
  have e0 : ∀ x y, Op.equal t x y = Op.equalIn (9999 + 1) t x y := fun _ _ => rfl
  simp only [binOp, Sem.run_bind, e0, h, Result.andThen_ok, Sem.run_pure]
theorem eqQ_sound {P : Program} {t : TypeId} {x y r : SV} {vc : Prop} (h : eqQ P t x y = some (r, vc)) (hvc : vc) (hx : isInt x = none) (hs : ∀ s, x ≠ .str s) {N : Nat} {ids : Nat → Nat} (h1 : x.ok N ids) (h2 : y.ok N ids) (w : World) :
    plainA (x.den ids) = true ∧ ((∃ cs, x.den ids = .agg cs) → P.eqGuardType P.depth t = false) ∧ ∃ q, r.den ids = .bool q ∧ r.ok N ids ∧ (binOp .eql t (x.den ids) (y.den ids)).run P w = .ok (.bool q) w := by
  unfold eqQ at h
  split at h
  · rename_i e ht
    split at h
    · obtain ⟨q, e1, e2, e3, e4, e5⟩ := eqNil_sound h hvc t e ht w N ids
      have hp : plainA (x.den ids) = true := by revert e5; cases x.den ids <;> simp [ptrV, plainA]
      exact ⟨hp, fun ⟨cs, hcs⟩ => by rw [hcs] at e5; simp [ptrV] at e5, q, e1, e2, by simpa [SV.den] using e3⟩
    · split at h
      · obtain ⟨q, e1, e2, e3, e4, e5⟩ := eqNil_sound h hvc t e ht w N ids
        exact ⟨by simp [SV.den, plainA], fun ⟨cs, hcs⟩ => by simp [SV.den] at hcs, q, e1, e2, by simpa [SV.den] using e4⟩
      · simp at h
  · rename_i k e ht
    split at h
    · obtain ⟨q, e1, e2, e3, e5⟩ := eqNilM_sound h hvc t k e ht w N ids
      have hp : plainA (x.den ids) = true := by revert e5; cases x.den ids <;> simp [mapV, plainA]
      exact ⟨hp, fun ⟨cs, hcs⟩ => by rw [hcs] at e5; simp [mapV] at e5, q, e1, e2, by simpa [SV.den] using e3⟩
    · simp at h
  · rename_i e ht
    split at h
    · split at h
      · simp only [Option.some.injEq, Prod.mk.injEq] at h
        obtain ⟨rfl, rfl⟩ := h
        rename_i a _ _
        refine ⟨by simp [SV.den, plainA], fun ⟨cs, hcs⟩ => by simp [SV.den] at hcs, a.isNone, ?_, by simp [SV.ok], by simp only [SV.den]; exact slice_nil t e ht w _ _ _ _ _⟩
        cases a <;> simp [SV.den]
      · simp at h
    · simp at h
  · split at h
    · simp at h
    · rename_i hg
      split at h
      · rename_i q hq
        simp only [Option.some.injEq, Prod.mk.injEq] at h
        obtain ⟨rfl, rfl⟩ := h
        have hp := eqS_agg hq hx hs ids
        refine ⟨hp, fun _ => hg, q, by simp [SV.den], by simp [SV.ok], ?_⟩
        have := eqS_sound (w := w) hq h1 h2 9970
        rw [binOp_eql hp]
        have e0 : Op.equal t (x.den ids) (y.den ids) = Op.equalIn (9970 + 30) t (x.den ids) (y.den ids) := rfl
        simp only [Sem.run_bind, e0, this, Result.andThen_ok, Sem.run_pure]
      · simp at h
theorem neg1_sound {r : SV} {vc : Prop} {p : Option (SV × Prop)} (h : neg1 p = some (r, vc)) : ∃ s, p = some (s, vc) ∧ notB s = some r := by
  unfold neg1 at h
  split at h
  · split at h
    · rename_i s vc' r' hr
      simp only [Option.some.injEq, Prod.mk.injEq] at h
      obtain ⟨rfl, rfl⟩ := h
      exact ⟨_, rfl, hr⟩
    · simp at h
  · simp at h
theorem binQ_sound {P : Program} {op : BinOp} {t : TypeId} {x y r : SV} {vc : Prop} (h : binQ P op t x y = some (r, vc)) (hvc : vc) {N : Nat} {ids : Nat → Nat} (h1 : x.ok N ids) (h2 : y.ok N ids) (ox oy : Operand) (w : World) :
    (eqGuard op t ox oy (x.den ids) (y.den ids)).run P w = .ok () w ∧ (binOp op t (x.den ids) (y.den ids)).run P w = .ok (r.den ids) w ∧ r.ok N ids := by
  unfold binQ at h
  split at h
  · rename_i l k a ha
    split at h
    · rename_i l' k' b hb
      rw [isInt_den ha, isInt_den hb]
      have := binI_sound (P := P) h hvc t w N ids
      exact ⟨eqGuard_other (.inl ⟨_, _, rfl⟩) w, this.1, this.2⟩
    · simp at h
  · rename_i hx
    split at h
    · split at h
      · have := binS_sound (P := P) h hvc t w N ids
        simp only [SV.den]
        exact ⟨eqGuard_other (.inr ⟨_, rfl⟩) w, this.1, this.2⟩
      · simp at h
    · rename_i hs
      split at h
      · obtain ⟨hp, hg, q, e1, e2, e3⟩ := eqQ_sound h hvc hx hs h1 h2 w
        exact ⟨eqGuard_run hp hg w, by rw [e3, e1], e2⟩
      · obtain ⟨s, hs', hn⟩ := neg1_sound h
        obtain ⟨hp, hg, q, e1, e2, e3⟩ := eqQ_sound hs' hvc hx hs h1 h2 w
        obtain ⟨t', f1, f2, f3⟩ := notB_sound hn N ids
        have : q = t' := by rw [e1] at f1; simpa using f1
        subst this
        exact ⟨eqGuard_run hp hg w, by rw [neq_of_eql hp e3, f2], f3⟩
      · simp at h

/-! ### Pointers -/
theorem cells_of_live {w : World} {H : Hp} {F : List (Nat × Obj)} (hw : OwnL w (H.den ++ F)) {k : Nat} (h : liveB H k = true) : ∃ c ty, w.heap[H.ids k]? = some (.cells c ty (0, 0)) ∧ ∃ b cs, nthO H k = some (b, some (.cells cs ty)) := by
  unfold liveB at h
  split at h
  · rename_i b cs ty hk
    exact ⟨_, ty, by rw [ids_of hk]; exact own_obj hw hk (x := (b, .cells (SV.dens H.ids cs).toArray ty)) (by simp [SO.den]), b, cs, hk⟩
  · simp at h
theorem denL_mem {ids : Nat → Nat} : ∀ {H : Hp} {k b : Nat} {o : SO} {x : Nat × Obj}, nthO H k = some (b, some o) → x ∈ o.den ids b → x ∈ denL ids H
  | [], k, _, _, _, h, _ => by simp [nthO] at h
  | e :: r, 0, b, o, x, h, hx => by
    simp only [nthO, Option.some.injEq] at h; subst h
    simp [denL, Ent.den, hx]
  | e :: r, k + 1, b, o, x, h, hx => by
    simp only [nthO] at h
    simp only [denL, List.mem_append]
    exact .inr (denL_mem h hx)
theorem ids_ne {ids : Nat → Nat} : ∀ {H : Hp} {k k' b b' : Nat} {cs cs' : List SV} {ty ty' : TypeId}, ((denL ids H).map (·.1)).Nodup → nthO H k = some (b, some (.cells cs ty)) → nthO H k' = some (b', some (.cells cs' ty')) → k ≠ k' → b ≠ b'
  | [], k, _, _, _, _, _, _, _, _, h, _, _ => by simp [nthO] at h
  | e :: r, 0, 0, _, _, _, _, _, _, _, _, _, hne => absurd rfl hne
  | e :: r, 0, k' + 1, b, b', cs, cs', ty, ty', hn, h, h', hne => by
    simp only [nthO, Option.some.injEq] at h h'; subst h
    have := denL_mem (ids := ids) h' (x := (b', .cells (SV.dens ids cs').toArray ty')) (by simp [SO.den])
    simp only [denL, Ent.den, SO.den, List.map_append, List.map_cons, List.map_nil, List.cons_append, List.nil_append, List.nodup_cons] at hn
    intro e; subst e
    exact hn.1 (List.mem_map.2 ⟨_, this, rfl⟩)
  | e :: r, k + 1, 0, b, b', cs, cs', ty, ty', hn, h, h', hne => by
    simp only [nthO, Option.some.injEq] at h h'; subst h'
    have := denL_mem (ids := ids) h (x := (b, .cells (SV.dens ids cs).toArray ty)) (by simp [SO.den])
    simp only [denL, Ent.den, SO.den, List.map_append, List.map_cons, List.map_nil, List.cons_append, List.nil_append, List.nodup_cons] at hn
    intro e; subst e
    exact hn.1 (List.mem_map.2 ⟨_, this, rfl⟩)
  | e :: r, k + 1, k' + 1, b, b', cs, cs', ty, ty', hn, h, h', hne => by
    simp only [nthO] at h h'
    simp only [denL, List.map_append] at hn
    exact ids_ne (List.nodup_append.1 hn).2.1 h h' (fun e => hne (by rw [e]))
theorem sameAddr_diff {P : Program} {w : World} {b b' o o' : Nat} {c c' : Array Value} {ty ty' : TypeId} (hb : w.heap[b]? = some (.cells c ty (0, 0))) (hb' : w.heap[b']? = some (.cells c' ty' (0, 0))) (hne : b ≠ b') :
    (sameAddr ⟨b, o, none⟩ ⟨b', o', none⟩).run P w = .ok false w := by
  have hbb : (b == b') = false := by simpa using hne
  have f : ∀ (b o : Nat) (c : Array Value) (ty : TypeId), w.heap[b]? = some (.cells c ty (0, 0)) → w.frozen? ⟨b, o, none⟩ = false := by
    intro b o c ty h; simp [World.frozen?, h]
  simp [sameAddr, hbb, frozen, Sem.run, f b o c ty hb, f b' o' c' ty' hb', noView, viewAt, shape, World.shape?, hb, hb', mayBeOne, stringish, f b _ c ty hb, f b' _ c' ty' hb', Sem.run_bind]
theorem ptrQ_sound {P : Program} {H : Hp} {t : TypeId} {x y : SV} {r : Bool} (h : ptrQ P H t x y = some r) {w : World} {F : List (Nat × Obj)} (hw : OwnL w (H.den ++ F)) (hok : H.ok) (h1 : x.ok H.length H.ids) (h2 : y.ok H.length H.ids) :
    (∀ op ox oy, (eqGuard op t ox oy (x.den H.ids) (y.den H.ids)).run P w = .ok () w) ∧ (binOp .eql t (x.den H.ids) (y.den H.ids)).run P w = .ok (.bool r) w ∧ (binOp .neq t (x.den H.ids) (y.den H.ids)).run P w = .ok (.bool (!r)) w := by
  unfold ptrQ at h
  split at h
  · rename_i k o
    split at h
    · rename_i k' o'
      split at h
      · rename_i e hu
        split at h
        · simp at h
        rename_i hsz
        simp only [Bool.and_eq_true, Bool.not_eq_true'] at hsz
        obtain ⟨d, hd⟩ := Option.isSome_iff_exists.1 hsz.1
        have hs0 : P.cellsOf e ≠ 0 := fun e0 => by rw [e0] at hsz; simp at hsz
        have hp : plainA ((SV.ptr k o).den H.ids) = true := by simp [SV.den, plainA]
        have key : (binOp .eql t ((SV.ptr k o).den H.ids) ((SV.ptr k' o').den H.ids)).run P w = .ok (.bool r) w := by
          rw [binOp_eql hp]
          have e0 : ∀ x y, Op.equal t x y = Op.equalIn (9999 + 1) t x y := fun _ _ => rfl
          have hs := sizeOf_run hd w
          have hsame : (sameAddr ⟨H.ids k, o, none⟩ ⟨H.ids k', o', none⟩).run P w = .ok r w := by
            split at h
            · rename_i hk
              have := Nat.eq_of_beq_eq_true hk
              subst this
              simp only [Option.some.injEq] at h; subst h
              have : (({ block := H.ids k, off := o } : Addr) == { block := H.ids k, off := o' }) = Nat.beq o o' := by
                cases hb : Nat.beq o o' with
                | true => have := Nat.eq_of_beq_eq_true hb; subst this; simp
                | false =>
                  have hne : o ≠ o' := fun e => by subst e; simp at hb
                  simp [hne]
              simp [sameAddr, this]
            · rename_i hk
              have hkk : k ≠ k' := fun e => by subst e; simp at hk
              split at h
              · rename_i hl
                simp only [Option.some.injEq] at h; subst h
                simp only [Bool.and_eq_true] at hl
                obtain ⟨c, ty, g1, b, cs, g2⟩ := cells_of_live hw hl.1
                obtain ⟨c', ty', g3, b', cs', g4⟩ := cells_of_live hw hl.2
                have hnd : ((denL H.ids H).map (·.1)).Nodup := by
                  have := hw.1
                  rw [List.map_append] at this
                  exact (List.nodup_append.1 this).1
                have hne := ids_ne hnd g2 g4 hkk
                rw [ids_of g2] at g1 ⊢
                rw [ids_of g4] at g3 ⊢
                exact sameAddr_diff g1 g3 hne
              · simp at h
          have hg : ∀ d, (Op.equalIn (d + 1) t (.pointer (some ⟨H.ids k, o, none⟩)) (.pointer (some ⟨H.ids k', o', none⟩))).run P w = .ok r w := by
            intro d; simp [Op.equalIn, underlying_run hu, hs, hs0, hsame]
          simp only [Sem.run_bind, e0, SV.den, hg, Result.andThen_ok, Sem.run_pure]
        exact ⟨fun op ox oy => eqGuard_run hp (fun ⟨cs, hcs⟩ => by simp [SV.den] at hcs) w, key, neq_of_eql hp key⟩
      · simp at h
    · simp at h
  · simp at h

/-! ### Maps whose keys are known -/
def entV (ids : Nat → Nat) (x : SV × SV × Nat) : MapEntry := ⟨x.1.den ids, x.2.1.den ids, x.2.2⟩
theorem own_mapc {w : World} {H : Hp} {F : List (Nat × Obj)} (hw : OwnL w (H.den ++ F)) {k b : Nat} {es : List (SV × SV × Nat)} {c : Nat} (h : nthO H k = some (b, some (.mapc es c))) : w.heap[H.ids k]? = some (.map (es.map (entV H.ids)).toArray c) := by
  rw [ids_of h]
  exact own_obj hw h (x := (b, .map (es.map (entV H.ids)).toArray c)) (by simp [SO.den, entV])
theorem plain_check {P : Program} {t : TypeId} (h : plainT P t = true) (v : Value) (em : Bool) (n : Nat) (w : World) : (Instr.checkKey em (n + 1) t v).run P w = .ok () w := by
  unfold plainT at h
  split at h
  · rename_i hu; simp [Instr.checkKey, underlying_run hu]
  · rename_i hu; simp [Instr.checkKey, underlying_run hu]
  · rename_i hu; simp [Instr.checkKey, underlying_run hu]
  · simp at h
theorem ck_sound {P : Program} {kt : TypeId} {key : SV} (h : ckT P kt key = true) {N : Nat} {ids : Nat → Nat} (hk : key.ok N ids) (em : Bool) (w : World) : (Instr.checkKey em 10000 kt (key.den ids)).run P w = .ok () w := by
  unfold ckT at h
  split at h
  · rename_i fs hu
    split at h
    · rename_i xs
      simp only [SV.ok] at hk
      rw [show 10000 = 9999 + 1 from rfl, Instr.checkKey]
      simp only [Sem.run_bind, underlying_run hu, Result.andThen_ok, SV.den]
      rw [← Array.forIn_toList]
      have each := List.all_eq_true.1 h
      clear h
      generalize fs.toList = L at each
      induction L with
      | nil => simp
      | cons f L ih =>
        have hf := each f (by simp)
        simp only [Bool.and_eq_true] at hf
        obtain ⟨y, hy⟩ := Option.isSome_iff_exists.1 hf.2
        have p1 := (partS_sound hy hk.1 hk.2 w).1
        have p2 := plain_check hf.1 (y.den ids) em 9998 w
        have ih' := ih (fun y hy => each y (by simp [hy]))
        by_cases hn : f.name = "_"
        · simp only [List.forIn_cons, Sem.run_bind, hn, ne_eq, not_true_eq_false, if_false, Result.andThen_ok, Sem.run_pure]
          exact ih'
        · simp only [List.forIn_cons, Sem.run_bind, hn, ne_eq, not_false_eq_true, if_true, Result.andThen_ok, p1, p2, Sem.run_pure]
          exact ih'
    · simp at h
  · exact plain_check h _ em 9999 w
theorem sameNow_agree {P : Program} {kt : TypeId} {d : TypeDesc} (hu : P.underlying kt = some d) {x y : SV} {q : Bool} (h : eqS P 30 kt x y = some q) (ids : Nat → Nat) : Instr.sameNow d (x.den ids) (y.den ids) = none ∨ Instr.sameNow d (x.den ids) (y.den ids) = some q := by
  rw [show 30 = 29 + 1 from rfl] at h
  simp only [eqS, hu] at h
  split at h
  · split at h
    · rename_i l1 k a ha
      split at h
      · rename_i l2 k' b hb
        split at h
        · rename_i hk
          have := kEq_eq hk
          subst this
          simp only [Option.some.injEq] at h; subst h
          rw [isInt_den ha, isInt_den hb]
          right; simp_all [Instr.sameNow]
        · simp at h
      · simp at h
    · simp at h
  · split at h
    · rename_i l1 a ha
      split at h
      · rename_i l2 b hb
        simp only [Option.some.injEq] at h; subst h
        rw [isBool_den ha, isBool_den hb]
        right; simp_all [Instr.sameNow]
      · simp at h
    · simp at h
  · split at h
    · split at h
      · rename_i a _ b
        simp only [Option.some.injEq] at h; subst h
        right
        simp_all only [Option.some.injEq]
        simp only [SV.den, Instr.sameNow, Option.some.injEq]
        have : ∀ p q : List UInt8, ((⟨p.toArray⟩ : ByteArray) == ⟨q.toArray⟩) = (p == q) := by
          intro p q
          have e1 : ((⟨p.toArray⟩ : ByteArray) == ⟨q.toArray⟩) = (p.toArray == q.toArray) := rfl
          rw [e1]
          simp
        exact this _ _
      · simp at h
    · simp at h
  · left; simp_all [Instr.sameNow]
  · simp at h
theorem findC_run {P : Program} {kt : TypeId} {key : SV} {N : Nat} {ids : Nat → Nat} (hk : key.ok N ids) : ∀ {es : List (SV × SV × Nat)} {i : Nat} {r : Option (Nat × SV)}, findC P kt key es i = some r → (∀ x ∈ es, x.1.ok N ids ∧ x.2.1.ok N ids) →
    (∀ w, (Instr.findAsking kt (key.den ids) (es.map (entV ids)) i).run P w = .ok (r.map fun p => (p.1, p.2.den ids)) w) ∧
    (∀ d, P.underlying kt = some d → Instr.findNow d (key.den ids) (es.map (entV ids)) i = none ∨ Instr.findNow d (key.den ids) (es.map (entV ids)) i = some (r.map fun p => (p.1, p.2.den ids))) ∧
    (∀ p, r = some p → p.2.ok N ids)
  | [], i, r, h, _ => by
    simp only [findC, Option.some.injEq] at h; subst h
    exact ⟨fun w => by simp [Instr.findAsking], fun d _ => .inr (by simp [Instr.findNow]), by simp⟩
  | (k, v, n) :: es, i, r, h, hes => by
    simp only [findC] at h
    have hkv := hes (k, v, n) (by simp)
    split at h
    · rename_i he
      simp only [Option.some.injEq] at h; subst h
      refine ⟨fun w => ?_, fun d hd => ?_, fun p hp => ?_⟩
      · have := eqS_sound (w := w) he hk hkv.1 9970
        have e0 : Op.equal kt (key.den ids) (k.den ids) = Op.equalIn (9970 + 30) kt (key.den ids) (k.den ids) := rfl
        simp [Instr.findAsking, entV, e0, this]
      · rcases sameNow_agree hd he ids with e | e
        · left; simp [Instr.findNow, entV, e]
        · right; simp [Instr.findNow, entV, e]
      · simp only [Option.some.injEq] at hp; subst hp; exact hkv.2
    · rename_i he
      obtain ⟨h1, h2, h3⟩ := findC_run hk h (fun x hx => hes x (by simp [hx]))
      refine ⟨fun w => ?_, fun d hd => ?_, h3⟩
      · have := eqS_sound (w := w) he hk hkv.1 9970
        have e0 : Op.equal kt (key.den ids) (k.den ids) = Op.equalIn (9970 + 30) kt (key.den ids) (k.den ids) := rfl
        simp [Instr.findAsking, entV, e0, this]
        exact h1 w
      · rcases sameNow_agree hd he ids with e | e
        · left; simp [Instr.findNow, entV, e]
        · rcases h2 d hd with g | g
          · left; simp only [List.map_cons, Instr.findNow, entV, e]; exact g
          · right; simp only [List.map_cons, Instr.findNow, entV, e]; exact g
    · simp at h
theorem findKey_run {P : Program} {kt : TypeId} {key : SV} (hck : ckT P kt key = true) {N : Nat} {ids : Nat → Nat} (hk : key.ok N ids) {es : List (SV × SV × Nat)} {r : Option (Nat × SV)} (h : findC P kt key es 0 = some r) (hes : ∀ x ∈ es, x.1.ok N ids ∧ x.2.1.ok N ids) (w : World) :
    (Instr.findKey kt (key.den ids) (es.map (entV ids))).run P w = .ok (r.map fun p => (p.1, p.2.den ids)) w := by
  obtain ⟨h1, h2, _⟩ := findC_run hk h hes
  obtain ⟨d, hd⟩ : ∃ d, P.underlying kt = some d := by
    unfold ckT plainT at hck
    cases hu : P.underlying kt with
    | none => simp [hu] at hck
    | some d => exact ⟨d, rfl⟩
  rcases h2 d hd with e | e
  · simp [Instr.findKey, underlying_run hd, e, h1 w]
  · simp [Instr.findKey, underlying_run hd, e]
theorem findC_look {P : Program} {kt : TypeId} {key : SV} (hck : ckT P kt key = true) {es : List (SV × SV × Nat)} {r : Option (Nat × SV)} (h : findC P kt key es 0 = some r) {N : Nat} {ids : Nat → Nat} (hk : key.ok N ids) (hes : ∀ x ∈ es, x.1.ok N ids ∧ x.2.1.ok N ids) :
    LookP P kt (key.den ids) (es.map (entV ids)).toArray ((r.map (·.2)).map (SV.den ids)) :=
  ⟨fun q w => ck_sound hck hk q w, fun w => ⟨_, findKey_run hck hk h hes w, by cases r <;> simp⟩⟩
theorem findC_ok {P : Program} {kt : TypeId} {key : SV} : ∀ {es : List (SV × SV × Nat)} {i : Nat} {p : Nat × SV} {N : Nat} {ids : Nat → Nat}, findC P kt key es i = some (some p) → (∀ x ∈ es, x.1.ok N ids ∧ x.2.1.ok N ids) → p.2.ok N ids
  | [], i, p, N, ids, h, _ => by simp [findC] at h
  | (k, v, n) :: es, i, p, N, ids, h, hes => by
    simp only [findC] at h
    split at h
    · simp only [Option.some.injEq] at h; subst h; exact (hes (k, v, n) (by simp)).2
    · exact findC_ok h (fun x hx => hes x (by simp [hx]))
    · simp at h
end Go.Sx

/- The symbolic executor 'Sx': quiet operations, whole. -/
namespace Go.Sx
open Go

theorem foldMin_sound {P : Program} {ids : Nat → Nat} {N : Nat} {k : IntKind} (w : World) : ∀ {l : Bool} {x : Int} {r : List SV} {v : SV}, foldMin k l x r = some v →
    ((SV.dens ids r).foldlM Builtin.min2 (.int k x)).run P w = .ok (v.den ids) w ∧ v.ok N ids
  | l, x, [], v, h => by simp only [foldMin, Option.some.injEq] at h; subst h; simp [SV.dens, mkInt_den, mkInt_ok]
  | l, x, y :: r, v, h => by
    simp only [foldMin] at h
    split at h
    · rename_i l' k' b hb
      have ih := foldMin_sound (P := P) (ids := ids) (N := N) w h
      refine ⟨?_, ih.2⟩
      simp only [SV.dens, List.foldlM_cons, isInt_den hb, Sem.run_bind, Builtin.min2, Sem.run_pure, Result.andThen_ok]
      exact ih.1
    · simp at h
theorem foldMax_sound {P : Program} {ids : Nat → Nat} {N : Nat} {k : IntKind} (w : World) : ∀ {l : Bool} {x : Int} {r : List SV} {v : SV}, foldMax k l x r = some v →
    ((SV.dens ids r).foldlM Builtin.max2 (.int k x)).run P w = .ok (v.den ids) w ∧ v.ok N ids
  | l, x, [], v, h => by simp only [foldMax, Option.some.injEq] at h; subst h; simp [SV.dens, mkInt_den, mkInt_ok]
  | l, x, y :: r, v, h => by
    simp only [foldMax] at h
    split at h
    · rename_i l' k' b hb
      have ih := foldMax_sound (P := P) (ids := ids) (N := N) w h
      refine ⟨?_, ih.2⟩
      simp only [SV.dens, List.foldlM_cons, isInt_den hb, Sem.run_bind, Builtin.max2, Sem.run_pure, Result.andThen_ok]
      exact ih.1
    · simp at h
theorem zeroV_sound {P : Program} {t : TypeId} {v : SV} (h : zeroV P t = some v) (N : Nat) (ids : Nat → Nat) : (∀ w, (zeroValue t).run P w = .ok (v.den ids) w) ∧ v.ok N ids := by
  unfold zeroV at h
  split at h
  · rename_i i hi
    split at h
    · rename_i z hz
      have := cstO_sound N ids h
      exact ⟨fun w => by simp [zeroValue, typeInfo, hi, hz, this.1], this.2⟩
    · simp at h
  · simp at h
theorem foundV_sound {P : Program} {e : TypeId} {ok : Bool} {r : Option SV} {v : SV} (h : foundV P e ok r = some v) {N : Nat} {ids : Nat → Nat} (hr : ∀ y, r = some y → y.ok N ids) :
    v.ok N ids ∧ ∀ o : Option (Nat × Value), o.map (·.2) = r.map (SV.den ids) → ∀ w,
      ((match o with | some (_, v) => (pure (v, true) : Sem (Value × Bool)) | none => do pure (← zeroValue e, false)) >>= fun (x : Value × Bool) => (pure (if ok then .tuple #[x.1, .bool x.2] else x.1) : Sem Value)).run P w = .ok (v.den ids) w := by
  unfold foundV at h
  split at h
  · rename_i y
    simp only [Option.some.injEq] at h; subst h
    have hy := hr y rfl
    refine ⟨by cases ok <;> simp [SV.ok, SV.oks, hy], fun o ho w => ?_⟩
    cases o with
    | none => simp at ho
    | some p => obtain ⟨i, q⟩ := p; simp at ho; subst ho; cases ok <;> simp [SV.den, SV.dens]
  · split at h
    · rename_i z hz
      have hz := zeroV_sound hz N ids
      simp only [Option.some.injEq] at h; subst h
      refine ⟨by cases ok <;> simp [SV.ok, SV.oks, hz.2], fun o ho w => ?_⟩
      cases o with
      | some p => simp at ho
      | none => cases ok <;> simp [SV.den, SV.dens, hz.1]
    · simp at h
theorem andThen_assoc {α β γ : Type} (r : Result α) (f : α → World → Result β) (g : β → World → Result γ) : (r.andThen f).andThen g = r.andThen fun a w => (f a w).andThen g := by cases r <;> rfl
theorem lookup_run {P : Program} {t kt el : TypeId} (hu : P.underlying t = some (.map kt el)) {x key : Value} {es : Array MapEntry} {w : World} (hx : (x = .map none ∧ es = #[]) ∨ ∃ r c, x = .map (some r) ∧ w.heap[r]? = some (.map es c)) {ok : Bool} {r : Option SV} {v : SV} {N : Nat} {ids : Nat → Nat}
    (hl : LookP P kt key es (r.map (SV.den ids))) (h : foundV P el ok r = some v) (hr : ∀ y, r = some y → y.ok N ids) : (Instr.lookup t x key ok).run P w = .ok (v.den ids) w ∧ v.ok N ids := by
  obtain ⟨hc, hf⟩ := hl
  obtain ⟨o, ho, hor⟩ := hf w
  have hv := foundV_sound h hr
  refine ⟨?_, hv.1⟩
  have := hv.2 o hor w
  rcases hx with ⟨rfl, rfl⟩ | ⟨r', c, rfl, hb⟩
  · simp only [Instr.lookup, Sem.run_bind, underlying_run hu, Result.andThen_ok, Sem.run_pure, hc, ho]
    cases o with
    | none => simpa only [Sem.run_bind, andThen_assoc] using this
    | some p => simpa only [Sem.run_bind] using this
  · have hg : (getObj r').run P w = .ok (.map es c) w := by simp [getObj, Sem.run, hb]
    simp only [Instr.lookup, Sem.run_bind, underlying_run hu, Result.andThen_ok, Sem.run_pure, hg, hc, ho]
    cases o with
    | none => simpa only [Sem.run_bind, andThen_assoc] using this
    | some p => simpa only [Sem.run_bind] using this

theorem own_map {w : World} {H : Hp} {F : List (Nat × Obj)} (hw : OwnL w (H.den ++ F)) {k b : Nat} {es : Array MapEntry} {c : Nat} {kn : List (Option SV)} (h : nthO H k = some (b, some (.map es c kn))) : w.heap[H.ids k]? = some (.map es c) := by
  rw [ids_of h]
  exact own_obj hw h (x := (b, .map es c)) (by simp [SO.den])

theorem capSub_v {c c' : Cap} {whole : Bool} {a m : Nat} (h : capSub c whole a m = some c') (hm : whole = true → m = c.v) (ha : a ≤ m) : c'.v = m - a := by
  unfold capSub at h
  split at h
  · simp only [Option.some.injEq] at h; subst h; rfl
  · have hm := hm rfl
    split at h
    · rename_i he
      simp only [Option.some.injEq] at h; subst h
      subst hm
      simp [Cap.v, he]
    · rename_i x he
      split at h
      · rename_i hb
        have hb := Nat.le_of_ble_eq_true hb
        simp only [Option.some.injEq] at h; subst h
        subst hm
        simp only [Cap.v, he]
        omega
      · simp at h
theorem qeval_sound {P : Program} {e : Env} (he : e.Ok) {w : World} {F : List (Nat × Obj)} (hw : OwnL w (e.H.den ++ F)) {dec : List (Nat × Bool)} {hm : Nat} {o : Oper} {v : SV} {vc : Prop}
    (h : qeval P e.gl e.H e.fr dec hm o.op = some (v, vc)) (hvc : vc) (hx : inX e.X o.op.operands.toList)
    (hdec : ∀ t q, decB dec t = some q → ∃ sv, e.fr.get t = some sv ∧ sv.den e.H.ids = .bool q) : (execOp e.a.eval o).run P w = .ok (.value (v.den e.H.ids)) w ∧ v.ok e.H.length e.H.ids := by
  obtain ⟨dst, op, type, pos, after, guard⟩ := o
  simp only at h hx
  cases op with
  | move x =>
    simp only [qeval, qMove, qPick, qBuild, qField, qFieldAddr, qIndexAddr, qIndex, qSlice, qLoad, qNilCheck, qBinOp, qUnOp, qConvert, qMakeInterface, qMakeFunc, qExtract, qLookup, qCall] at h
    split at h
    · rename_i y hy
      simp only [Option.some.injEq, Prod.mk.injEq] at h; obtain ⟨rfl, rfl⟩ := h
      have := opv_sound he hy hx
      exact ⟨by simp [execOp, this.1], this.2⟩
    · simp at h
  | assign x =>
    simp only [qeval, qMove, qPick, qBuild, qField, qFieldAddr, qIndexAddr, qIndex, qSlice, qLoad, qNilCheck, qBinOp, qUnOp, qConvert, qMakeInterface, qMakeFunc, qExtract, qLookup, qCall] at h
    split at h
    · rename_i y hy
      simp only [Option.some.injEq, Prod.mk.injEq] at h; obtain ⟨rfl, rfl⟩ := h
      have := opv_sound he hy hx
      exact ⟨by simp [execOp, this.1], this.2⟩
    · simp at h
  | pick c a b =>
    have hx1 := (inX_cons (l := [a, b])).1 (show inX e.X [c, a, b] from hx)
    have hx2 := (inX_cons (l := [b])).1 hx1.2
    have go : ∀ (t : Bool) {v : SV} {vc : Prop}, e.a.eval c = .bool t → (match opv e.gl e.H e.fr (match t with | true => a | false => b) with | some v => some (v, True) | none => none) = some (v, vc) →
        (execOp e.a.eval ⟨dst, .pick c a b, type, pos, after, guard⟩).run P w = .ok (.value (v.den e.H.ids)) w ∧ v.ok e.H.length e.H.ids := by
      intro t v vc hc h
      split at h
      · rename_i y hy
        simp only [Option.some.injEq, Prod.mk.injEq] at h; obtain ⟨rfl, rfl⟩ := h
        cases t
        · have := opv_sound he hy hx2.2
          exact ⟨by simp [execOp, hc, asBool, this.1], this.2⟩
        · have := opv_sound he hy hx2.1
          exact ⟨by simp [execOp, hc, asBool, this.1], this.2⟩
      · simp at h
    simp only [qeval, qMove, qPick, qBuild, qField, qFieldAddr, qIndexAddr, qIndex, qSlice, qLoad, qNilCheck, qBinOp, qUnOp, qConvert, qMakeInterface, qMakeFunc, qExtract, qLookup, qCall] at h
    split at h
    · rename_i t ht
      split at ht
      · rename_i t'
        obtain ⟨sv, h1, h2⟩ := hdec _ _ ht
        refine go t ?_ h
        have := he.on t' sv (hx1.1 t' (by simp [opTmps])) h1
        simp [Act.eval, Array.getD_eq_getD_getElem?, this, h2]
      · simp at ht
    · split at h
      · rename_i t ht
        exact go t (by have := (opv_sound he ht hx1.1).1; simpa [SV.den] using this) h
      · simp at h
  | build t ps =>
    have hx' : inX e.X (ps.toList.map (·.2)) := by simpa [Op.operands] using hx
    simp only [qeval, qMove, qPick, qBuild, qField, qFieldAddr, qIndexAddr, qIndex, qSlice, qLoad, qNilCheck, qBinOp, qUnOp, qConvert, qMakeInterface, qMakeFunc, qExtract, qLookup, qCall] at h
    split at h
    · rename_i z hz
      split at h
      · rename_i fs hu
        split at h
        · rename_i hall
          split at h
          · rename_i cs hcs
            simp only [Option.some.injEq, Prod.mk.injEq] at h; obtain ⟨rfl, rfl⟩ := h
            have := build_struct he hz hu hall hcs hx' w
            exact ⟨by simp only [execOp, Sem.run_bind, this.1, Result.andThen_ok, Sem.run_pure], this.2⟩
          · simp at h
        · simp at h
      · rename_i n el hu
        split at h
        · rename_i d hd
          split at h
          · rename_i cs hcs
            simp only [Option.some.injEq, Prod.mk.injEq] at h; obtain ⟨rfl, rfl⟩ := h
            have := build_array he hz hu hd hcs hx' w
            exact ⟨by simp only [execOp, Sem.run_bind, this.1, Result.andThen_ok, Sem.run_pure], this.2⟩
          · simp at h
        · simp at h
      · simp at h
    · simp at h
  | field t x i =>
    simp only [qeval, qMove, qPick, qBuild, qField, qFieldAddr, qIndexAddr, qIndex, qSlice, qLoad, qNilCheck, qBinOp, qUnOp, qConvert, qMakeInterface, qMakeFunc, qExtract, qLookup, qCall] at h
    split at h
    · rename_i cs hcs
      split at h
      · rename_i off sz ft hf
        split at h
        · rename_i y hy
          simp only [Option.some.injEq, Prod.mk.injEq] at h; obtain ⟨rfl, rfl⟩ := h
          have h1 := opv_sound he hcs hx
          simp only [SV.ok, SV.den] at h1
          have := field_run hf hy h1.2.1 h1.2.2 w
          exact ⟨by simp only [execOp, Sem.run_bind, h1.1, this.1, Result.andThen_ok, Sem.run_pure], this.2⟩
        · simp at h
      · simp at h
    · simp at h
  | fieldAddr t x i =>
    simp only [qeval, qMove, qPick, qBuild, qField, qFieldAddr, qIndexAddr, qIndex, qSlice, qLoad, qNilCheck, qBinOp, qUnOp, qConvert, qMakeInterface, qMakeFunc, qExtract, qLookup, qCall] at h
    split at h
    · rename_i off sz ft hf
      split at h
      · simp at h
      · rename_i hsz
        have hsz : sz ≠ 0 := fun e0 => by subst e0; simp at hsz
        split at h <;> first
          | (simp at h; done)
          | (rename_i hv
             simp only [Option.some.injEq, Prod.mk.injEq] at h; obtain ⟨rfl, rfl⟩ := h
             have h1 := opv_sound he hv hx
             simp only [SV.ok, SV.den] at h1
             refine ⟨?_, by first | (simp only [SV.ok]; exact h1.2) | simp [SV.ok]⟩
             simp only [execOp, Sem.run_bind, h1.1, fieldAt_run hf hsz, Result.andThen_ok, Sem.run_pure, SV.den, Nat.add_assoc])
    · simp at h
  | indexAddr t x i =>
    have hx1 := (inX_cons (l := [i])).1 (show inX e.X [x, i] from hx)
    simp only [qeval, qMove, qPick, qBuild, qField, qFieldAddr, qIndexAddr, qIndex, qSlice, qLoad, qNilCheck, qBinOp, qUnOp, qConvert, qMakeInterface, qMakeFunc, qExtract, qLookup, qCall] at h
    split at h
    · rename_i iv hiv
      split at h
      · rename_i l k a ha
        have h2 := opv_sound he hiv hx1.2
        rw [isInt_den ha] at h2
        split at h
        · rename_i n el hu
          split at h
          · simp at h
          · rename_i d hd
            split at h
            · rename_i kk hv
              simp only [Option.some.injEq, Prod.mk.injEq] at h; obtain ⟨rfl, rfl⟩ := h
              have h1 := opv_sound he hv hx1.1
              simp only [SV.ok, SV.den] at h1
              refine ⟨?_, by simp only [SV.ok]; exact h1.2⟩
              simp only [execOp, Sem.run_bind, h1.1, h2.1, indexAt_array hu hd hvc.1 hvc.2, Result.andThen_ok, Sem.run_pure, SV.den, Nat.zero_add, Nat.add_zero]
            · simp at h
        · rename_i el hu
          split at h
          · simp at h
          · rename_i d hd
            split at h
            · rename_i kk sz lo ad len cap hv
              split at h
              · rename_i hsz
                have hsz := Nat.eq_of_beq_eq_true hsz
                simp only [Option.some.injEq, Prod.mk.injEq] at h; obtain ⟨rfl, rfl⟩ := h
                have h1 := opv_sound he hv hx1.1
                simp only [SV.ok, SV.den] at h1
                obtain ⟨h1, h3, h4⟩ := h1
                have h4 : kk < e.H.length ∧ ad = some ⟨e.H.ids kk, lo * sz, none⟩ := h4.resolve_left (by omega)
                refine ⟨?_, by simp only [SV.ok]; exact h4.1⟩
                simp only [execOp, Sem.run_bind, h1, h4.2, h2.1, indexAt_slice hu hd hvc.1 hvc.2, Result.andThen_ok, Sem.run_pure, SV.den, ← hsz]
                rw [Nat.add_mul, Nat.add_zero]
              · simp at h
            · simp at h
        · simp at h
      · simp at h
    · simp at h
  | index t x i =>
    have hx1 := (inX_cons (l := [i])).1 (show inX e.X [x, i] from hx)
    simp only [qeval, qMove, qPick, qBuild, qField, qFieldAddr, qIndexAddr, qIndex, qSlice, qLoad, qNilCheck, qBinOp, qUnOp, qConvert, qMakeInterface, qMakeFunc, qExtract, qLookup, qCall] at h
    split at h
    · rename_i iv hiv
      split at h
      · rename_i l k a ha
        have h2 := opv_sound he hiv hx1.2
        rw [isInt_den ha] at h2
        split at h
        · rename_i hu
          split at h
          · rename_i s hv
            simp only [Option.some.injEq, Prod.mk.injEq] at h; obtain ⟨rfl, rfl⟩ := h
            have h1 := opv_sound he hv hx1.1
            simp only [SV.den] at h1
            refine ⟨?_, by simp [SV.ok]⟩
            simp only [execOp, Sem.run_bind, h1.1, h2.1, index_string hu hvc.1 hvc.2, Result.andThen_ok, Sem.run_pure, SV.den]
          · simp at h
        · simp at h
      · simp at h
    · simp at h
  | slice t x lo hi mx =>
    have hxx : inX e.X [x] ∧ inX e.X lo.toList ∧ inX e.X hi.toList ∧ inX e.X mx.toList := by
      have : inX e.X ([x] ++ (lo.toList ++ (hi.toList ++ mx.toList))) := by
        have e1 : (Op.slice t x lo hi mx).operands.toList = [x] ++ (lo.toList ++ (hi.toList ++ mx.toList)) := by simp [Op.operands]
        rw [← e1]; exact hx
      obtain ⟨a1, a2⟩ := inX_append.1 this
      obtain ⟨a3, a4⟩ := inX_append.1 a2
      obtain ⟨a5, a6⟩ := inX_append.1 a4
      exact ⟨a1, a3, a5, a6⟩
    obtain ⟨x1, x2, x3, x4⟩ := hxx
    simp only [qeval, qMove, qPick, qBuild, qField, qFieldAddr, qIndexAddr, qIndex, qSlice, qLoad, qNilCheck, qBinOp, qUnOp, qConvert, qMakeInterface, qMakeFunc, qExtract, qLookup, qCall] at h
    split at h
    · rename_i hu
      split at h
      · split at h
        · rename_i l hv
          split at h
          · rename_i a ha
            split at h
            · rename_i c hc
              simp only [Option.some.injEq, Prod.mk.injEq] at h; obtain ⟨rfl, rfl⟩ := h
              have h1 := opv_sound he hv x1
              simp only [SV.den] at h1
              refine ⟨?_, by simp [SV.ok]⟩
              have := slice_string (P := P) hu (optI_sound he (n := 0) rfl ha x2) (optI_sound he (n := l.length) rfl hc x3) hvc.1 hvc.2.1 hvc.2.2 w
              simp only [execOp, Sem.run_bind, h1.1, Option.map_none, this, Result.andThen_ok, Sem.run_pure, SV.den]
            · simp at h
          · simp at h
        · simp at h
      · simp at h
    · rename_i el hu
      split at h
      · rename_i kk sz f ad len cap hv
        split at h
        · rename_i hsz
          simp only [Bool.and_eq_true] at hsz
          obtain ⟨hsz, hds⟩ := hsz
          have hsz : sz = P.cellsOf el ∨ cap.v = 0 := by
            rcases Bool.or_eq_true _ _ ▸ hsz with h | h
            · exact .inl (Nat.eq_of_beq_eq_true h)
            · refine .inr ?_
              unfold capZ at h
              split at h
              · rename_i he'; have := Nat.eq_of_beq_eq_true h; simp [Cap.v, he', this]
              · simp at h
          obtain ⟨d, hd⟩ := Option.isSome_iff_exists.1 hds
          split at h
          · rename_i m hm
            split at h
            · rename_i hh hhh
              split at h
              · rename_i a ha
                split at h
                · simp at h
                · rename_i hmx
                  split at h
                  · rename_i cc hcc
                    simp only [Option.some.injEq, Prod.mk.injEq] at h; obtain ⟨rfl, rfl⟩ := h
                    obtain ⟨v1, v2, v3, v4⟩ := hvc
                    have h1 := opv_sound he hv x1
                    simp only [SV.ok, SV.den] at h1
                    obtain ⟨h1, h3, h4⟩ := h1
                    have hmx' : (mx.map e.a.eval).isSome = true → (hi.map e.a.eval).isSome = true := by cases mx <;> cases hi <;> simp_all
                    have hcv : cc.v = m.toNat - a.toNat := capSub_v hcc (fun hw => by cases mx with
                      | none => simp only [optI, Option.some.injEq] at hm; omega
                      | some _ => simp at hw) (by omega)
                    have := slice_slice (P := P) hu hd (ad := ad) (len := len) (cap := cap.v) (optI_sound he (n := 0) rfl ha x2) (optI_sound he (n := len) rfl hhh x3) (optI_sound he (n := cap.v) rfl hm x4) hmx' v1 v2 v3 v4 w
                    have hmap : (ad.map fun p => if m.toNat = a.toNat then p else p.add (a.toNat * P.cellsOf el)) = (if m.toNat = a.toNat then ad else ad.map (·.add (a.toNat * P.cellsOf el))) := by
                      split
                      · cases ad <;> rfl
                      · rfl
                    refine ⟨by simp only [execOp, Sem.run_bind, h1, this, Result.andThen_ok, Sem.run_pure, SV.den, hcv, hmap], ?_⟩
                    simp only [SV.ok, hcv]
                    refine ⟨by omega, ?_⟩
                    by_cases hma : m.toNat = a.toNat
                    · exact .inl (by omega)
                    · have h4 := h4.resolve_left (by omega)
                      have hsz := hsz.resolve_right (by omega)
                      refine .inr ⟨h4.1, ?_⟩
                      rw [hmap, if_neg hma, h4.2]
                      simp only [Option.map_some, addr_add]
                      rw [Nat.add_mul, hsz]
                  · simp at h
              · simp at h
            · simp at h
          · simp at h
        · simp at h
      · simp at h
    · simp at h
  | load t x =>
    simp only [qeval, qMove, qPick, qBuild, qField, qFieldAddr, qIndexAddr, qIndex, qSlice, qLoad, qNilCheck, qBinOp, qUnOp, qConvert, qMakeInterface, qMakeFunc, qExtract, qLookup, qCall] at h
    split at h
    · rename_i y hy
      have h1 := opv_sound he hy hx
      obtain ⟨⟨ad, h2, h3⟩, h4⟩ := loadQ_sound h hvc he.hok hw
      rw [h2] at h1
      exact ⟨by simp only [execOp, Instr.loadAt, Sem.run_bind, h1.1, Instr.sureAddr, Sem.run_pure, Result.andThen_ok, h3], h4⟩
    · simp at h
  | nilCheck x =>
    simp only [qeval, qMove, qPick, qBuild, qField, qFieldAddr, qIndexAddr, qIndex, qSlice, qLoad, qNilCheck, qBinOp, qUnOp, qConvert, qMakeInterface, qMakeFunc, qExtract, qLookup, qCall] at h
    split at h <;> first
      | (simp at h; done)
      | (rename_i hv
         simp only [Option.some.injEq, Prod.mk.injEq] at h; obtain ⟨rfl, rfl⟩ := h
         have h1 := opv_sound he hv hx
         refine ⟨?_, h1.2⟩
         simp only [execOp, h1.1, SV.den, Sem.run_pure])
  | binOp op' t x y yt =>
    have hx1 := (inX_cons (l := [y])).1 (show inX e.X [x, y] from hx)
    simp only [qeval, qMove, qPick, qBuild, qField, qFieldAddr, qIndexAddr, qIndex, qSlice, qLoad, qNilCheck, qBinOp, qUnOp, qConvert, qMakeInterface, qMakeFunc, qExtract, qLookup, qCall] at h
    split at h
    · rename_i a ha
      split at h
      · rename_i b hb
        have h1 := opv_sound he ha hx1.1
        have h2 := opv_sound he hb hx1.2
        split at h
        · rename_i r hr
          have h3 := ptrQ_sound hr hw he.hok h1.2 h2.2
          split at h
          · simp only [Option.some.injEq, Prod.mk.injEq] at h; obtain ⟨rfl, rfl⟩ := h
            exact ⟨by simp only [execOp, Sem.run_bind, h1.1, h2.1, (h3.1 _ x y), h3.2.1, Result.andThen_ok, Sem.run_pure, SV.den], by simp [SV.ok]⟩
          · simp only [Option.some.injEq, Prod.mk.injEq] at h; obtain ⟨rfl, rfl⟩ := h
            exact ⟨by simp only [execOp, Sem.run_bind, h1.1, h2.1, (h3.1 _ x y), h3.2.2, Result.andThen_ok, Sem.run_pure, SV.den], by simp [SV.ok]⟩
          · simp at h
        obtain ⟨h3, h4, h5⟩ := binQ_sound (P := P) h hvc h1.2 h2.2 x y w
        exact ⟨by simp only [execOp, Sem.run_bind, h1.1, h2.1, h3, h4, Result.andThen_ok, Sem.run_pure], h5⟩
      · simp at h
    · simp at h
  | unOp op' t x =>
    simp only [qeval, qMove, qPick, qBuild, qField, qFieldAddr, qIndexAddr, qIndex, qSlice, qLoad, qNilCheck, qBinOp, qUnOp, qConvert, qMakeInterface, qMakeFunc, qExtract, qLookup, qCall] at h
    split at h
    · rename_i y hy
      have h1 := opv_sound he hy hx
      split at h
      · split at h
        · rename_i r hr
          simp only [Option.some.injEq, Prod.mk.injEq] at h; obtain ⟨rfl, rfl⟩ := h
          obtain ⟨q, e1, e2, e3⟩ := notB_sound hr e.H.length e.H.ids
          exact ⟨by simp only [execOp, Sem.run_bind, h1.1, e1, Op.unary, Sem.run_pure, Result.andThen_ok, e2], e3⟩
        · simp at h
      · split at h
        · rename_i l k a ha
          simp only [Option.some.injEq, Prod.mk.injEq] at h; obtain ⟨rfl, rfl⟩ := h
          exact ⟨by simp only [execOp, Sem.run_bind, h1.1, isInt_den ha, Op.unary, Op.intArith, Sem.run_pure, Result.andThen_ok, mkInt_den], mkInt_ok _ _ _ _ _⟩
        · simp at h
      · split at h
        · rename_i l k a ha
          simp only [Option.some.injEq, Prod.mk.injEq] at h; obtain ⟨rfl, rfl⟩ := h
          exact ⟨by simp only [execOp, Sem.run_bind, h1.1, isInt_den ha, Op.unary, Op.intBits, Sem.run_pure, Result.andThen_ok, mkInt_den], mkInt_ok _ _ _ _ _⟩
        · simp at h
      · simp at h
    · simp at h
  | convert s d x =>
    simp only [qeval, qMove, qPick, qBuild, qField, qFieldAddr, qIndexAddr, qIndex, qSlice, qLoad, qNilCheck, qBinOp, qUnOp, qConvert, qMakeInterface, qMakeFunc, qExtract, qLookup, qCall] at h
    split at h
    · rename_i y hy
      have h1 := opv_sound he hy hx
      split at h
      · simp at h
      · rename_i ds hs
        split at h
        · rename_i k hd
          split at h
          · rename_i l k' a ha
            simp only [Option.some.injEq, Prod.mk.injEq] at h; obtain ⟨rfl, rfl⟩ := h
            refine ⟨?_, mkInt_ok _ _ _ _ _⟩
            simp only [execOp, Sem.run_bind, h1.1, isInt_den ha, convert, underlying_run hs, underlying_run hd, Result.andThen_ok, Conv.intToInt, Sem.run_pure, mkInt_den]
          · simp at h
        · rename_i hd
          split at h
          · simp only [Option.some.injEq, Prod.mk.injEq] at h; obtain ⟨rfl, rfl⟩ := h
            simp only [SV.den] at h1
            refine ⟨?_, by simp [SV.ok]⟩
            simp only [execOp, Sem.run_bind, h1.1, convert, underlying_run hs, underlying_run hd, Result.andThen_ok, Sem.run_pure, SV.den]
          · simp at h
        · simp at h
    · simp at h
  | makeInterface t x =>
    simp only [qeval, qMove, qPick, qBuild, qField, qFieldAddr, qIndexAddr, qIndex, qSlice, qLoad, qNilCheck, qBinOp, qUnOp, qConvert, qMakeInterface, qMakeFunc, qExtract, qLookup, qCall] at h
    split at h
    · simp at h
    · rename_i d hni hu
      split at h
      · rename_i y hy
        simp only [Option.some.injEq, Prod.mk.injEq] at h; obtain ⟨rfl, rfl⟩ := h
        have h1 := opv_sound he hy hx
        refine ⟨?_, by simp only [SV.ok]; exact h1.2⟩
        simp only [execOp, Sem.run_bind, h1.1, Instr.makeInterface, underlying_run hu, Result.andThen_ok, SV.den]
        cases d <;> first | rfl | exact absurd rfl (hni _)
      · simp at h
    · simp at h
  | makeFunc f l c =>
    have hxx : inX e.X l.toList ∧ inX e.X c.toList := inX_append.1 (by have : (Op.makeFunc f l c).operands.toList = l.toList ++ c.toList := by simp [Op.operands]
                                                                       rw [← this]; exact hx)
    simp only [qeval, qMove, qPick, qBuild, qField, qFieldAddr, qIndexAddr, qIndex, qSlice, qLoad, qNilCheck, qBinOp, qUnOp, qConvert, qMakeInterface, qMakeFunc, qExtract, qLookup, qCall] at h
    split at h
    · rename_i ls hls
      split at h
      · rename_i cs hcs
        simp only [Option.some.injEq, Prod.mk.injEq] at h; obtain ⟨rfl, rfl⟩ := h
        have h1 := opvs_sound he hls hxx.1
        have h2 := opvs_sound he hcs hxx.2
        refine ⟨?_, by simp only [SV.ok]; exact ⟨h1.2, h2.2⟩⟩
        have e1 : l.map e.a.eval = (SV.dens e.H.ids ls).toArray := Array.ext' (by rw [Array.toList_map, h1.1])
        have e2 : c.map e.a.eval = (SV.dens e.H.ids cs).toArray := Array.ext' (by rw [Array.toList_map, h2.1])
        simp only [execOp, Sem.run_bind, e1, e2, Instr.makeFunc, Sem.run_pure, Result.andThen_ok, SV.den]
      · simp at h
    · simp at h
  | extract x i =>
    simp only [qeval, qMove, qPick, qBuild, qField, qFieldAddr, qIndexAddr, qIndex, qSlice, qLoad, qNilCheck, qBinOp, qUnOp, qConvert, qMakeInterface, qMakeFunc, qExtract, qLookup, qCall] at h
    split at h
    · rename_i l hl
      split at h
      · rename_i y hy
        simp only [Option.some.injEq, Prod.mk.injEq] at h; obtain ⟨rfl, rfl⟩ := h
        have h1 := opv_sound he hl hx
        simp only [SV.ok, SV.den] at h1
        rw [nthO_eq] at hy
        refine ⟨?_, (oks_iff _ _ _).1 h1.2 _ (List.mem_of_getElem? hy)⟩
        have : (SV.dens e.H.ids l).toArray[i]? = some (y.den e.H.ids) := by simp [dens_eq, hy]
        simp only [execOp, Sem.run_bind, h1.1, Instr.extract, this, Sem.run_pure, Result.andThen_ok]
      · simp at h
    · simp at h
  | lookup t x ix ok =>
    have hx1 := (inX_cons (l := [ix])).1 (show inX e.X [x, ix] from hx)
    simp only [qeval, qMove, qPick, qBuild, qField, qFieldAddr, qIndexAddr, qIndex, qSlice, qLoad, qNilCheck, qBinOp, qUnOp, qConvert, qMakeInterface, qMakeFunc, qExtract, qLookup, qCall] at h
    split at h
    · rename_i kt el hu
      split at h
      · rename_i key hkey
        have h2 := opv_sound he hkey hx1.2
        split at h
        · rename_i k hv
          have h1 := opv_sound he hv hx1.1
          simp only [SV.den] at h1
          split at h
          · rename_i b es c kn hk
            split at h
            · rename_i r hr
              split at h
              · rename_i y hy
                simp only [Option.some.injEq, Prod.mk.injEq] at h; obtain ⟨rfl, rfl⟩ := h
                rw [nthO_eq] at hr
                have hro := he.hok k b _ hk r (List.mem_of_getElem? hr)
                have := lookup_run hu (x := e.a.eval x) (w := w) (.inr ⟨_, c, h1.1, own_map hw hk⟩) hvc hy hro
                exact ⟨by simp only [execOp, Sem.run_bind, h2.1, this.1, Result.andThen_ok, Sem.run_pure], this.2⟩
              · simp at h
            · simp at h
          · rename_i b es c hk
            split at h
            · rename_i hck
              split at h
              · rename_i r hr
                split at h
                · rename_i y hy
                  simp only [Option.some.injEq, Prod.mk.injEq] at h; obtain ⟨rfl, rfl⟩ := h
                  have hmo := he.hok k b _ hk
                  have hl := findC_look hck hr h2.2 hmo
                  have hro : ∀ y, r.map (·.2) = some y → y.ok e.H.length e.H.ids := by
                    intro y hy'
                    cases r with
                    | none => simp at hy'
                    | some p => simp at hy'; subst hy'; exact findC_ok hr hmo
                  have := lookup_run hu (x := e.a.eval x) (w := w) (.inr ⟨_, c, h1.1, own_mapc hw hk⟩) hl hy hro
                  exact ⟨by simp only [execOp, Sem.run_bind, h2.1, this.1, Result.andThen_ok, Sem.run_pure], this.2⟩
                · simp at h
              · simp at h
            · simp at h
          · simp at h
        · rename_i hv
          have h1 := opv_sound he hv hx1.1
          simp only [SV.den] at h1
          split at h
          · rename_i y hy
            simp only [Option.some.injEq, Prod.mk.injEq] at h; obtain ⟨rfl, rfl⟩ := h
            have := lookup_run (N := e.H.length) (ids := e.H.ids) hu (x := e.a.eval x) (w := w) (.inl ⟨h1.1, rfl⟩) (r := none) hvc hy (by simp)
            exact ⟨by simp only [execOp, Sem.run_bind, h2.1, this.1, Result.andThen_ok, Sem.run_pure], this.2⟩
          · simp at h
        · simp at h
      · simp at h
    · simp at h
  | call c =>
    obtain ⟨callee, args, argTypes⟩ := c
    cases callee with
    | builtin bi =>
      simp only [qeval, qMove, qPick, qBuild, qField, qFieldAddr, qIndexAddr, qIndex, qSlice, qLoad, qNilCheck, qBinOp, qUnOp, qConvert, qMakeInterface, qMakeFunc, qExtract, qLookup, qCall] at h
      split at h
      · rename_i l hl
        have hx' : inX e.X args.toList := by simpa [Op.operands, Call.operands] using hx
        have h1 := opvs_sound he hl hx'
        have e1 : args.map e.a.eval = (SV.dens e.H.ids l).toArray := Array.ext' (by rw [Array.toList_map, h1.1])
        split at h
        · split at h
          · rename_i t ts hts
            have hat : argTypes[0]? = some t := by rw [← Array.getElem?_toList, hts]; rfl
            split at h
            · rename_i hu
              split at h
              · simp only [Option.some.injEq, Prod.mk.injEq] at h; obtain ⟨rfl, rfl⟩ := h
                refine ⟨?_, by simp [SV.ok]⟩
                simp [execOp, resolve, invoke, builtin, Builtin.len_, e1, hat, SV.dens, SV.den, underlying_run hu, goInt, size_mk]
              · simp at h
            · rename_i el hu
              split at h
              · simp only [Option.some.injEq, Prod.mk.injEq] at h; obtain ⟨rfl, rfl⟩ := h
                refine ⟨?_, by simp [SV.ok]⟩
                simp [execOp, resolve, invoke, builtin, Builtin.len_, e1, hat, SV.dens, SV.den, underlying_run hu, goInt]
              · simp at h
            · rename_i kt el hu
              split at h
              · split at h
                · rename_i hk
                  simp only [Option.some.injEq, Prod.mk.injEq] at h; obtain ⟨rfl, rfl⟩ := h
                  refine ⟨?_, by simp [SV.ok]⟩
                  have hb := own_map hw hk
                  simp [execOp, resolve, invoke, builtin, Builtin.len_, e1, hat, SV.dens, SV.den, underlying_run hu, goInt, getObj, Sem.run, hb]
                · rename_i hk
                  simp only [Option.some.injEq, Prod.mk.injEq] at h; obtain ⟨rfl, rfl⟩ := h
                  refine ⟨?_, by simp [SV.ok]⟩
                  have hb := own_mapc hw hk
                  simp [execOp, resolve, invoke, builtin, Builtin.len_, e1, hat, SV.dens, SV.den, underlying_run hu, goInt, getObj, Sem.run, hb]
                · simp at h
              · simp only [Option.some.injEq, Prod.mk.injEq] at h; obtain ⟨rfl, rfl⟩ := h
                refine ⟨?_, by simp [SV.ok]⟩
                simp [execOp, resolve, invoke, builtin, Builtin.len_, e1, hat, SV.dens, SV.den, underlying_run hu, goInt]
              · simp at h
            · rename_i n el hu
              split at h
              · simp only [Option.some.injEq, Prod.mk.injEq] at h; obtain ⟨rfl, rfl⟩ := h
                refine ⟨?_, by simp [SV.ok]⟩
                simp [execOp, resolve, invoke, builtin, Builtin.len_, e1, hat, SV.dens, SV.den, underlying_run hu, goInt]
              · simp at h
            · simp at h
          · simp at h
        · split at h
          · rename_i t ts hts
            have hat : argTypes[0]? = some t := by rw [← Array.getElem?_toList, hts]; rfl
            split at h
            · rename_i el hu
              split at h
              · simp only [Option.some.injEq, Prod.mk.injEq] at h; obtain ⟨rfl, rfl⟩ := h
                refine ⟨?_, by simp [SV.ok]⟩
                simp [execOp, resolve, invoke, builtin, Builtin.cap_, e1, hat, SV.dens, SV.den, underlying_run hu, goInt]
              · simp at h
            · simp at h
          · simp at h
        · split at h
          · rename_i x r
            split at h
            · rename_i li k a ha
              split at h
              · rename_i y hy
                simp only [Option.some.injEq, Prod.mk.injEq] at h; obtain ⟨rfl, rfl⟩ := h
                have := foldMin_sound (P := P) (ids := e.H.ids) (N := e.H.length) w hy
                refine ⟨?_, this.2⟩
                simp [execOp, resolve, invoke, builtin, Builtin.min_, e1, SV.dens, isInt_den ha, this.1]
              · simp at h
            · simp at h
          · simp at h
        · split at h
          · rename_i x r
            split at h
            · rename_i li k a ha
              split at h
              · rename_i y hy
                simp only [Option.some.injEq, Prod.mk.injEq] at h; obtain ⟨rfl, rfl⟩ := h
                have := foldMax_sound (P := P) (ids := e.H.ids) (N := e.H.length) w hy
                refine ⟨?_, this.2⟩
                simp [execOp, resolve, invoke, builtin, Builtin.max_, e1, SV.dens, isInt_den ha, this.1]
              · simp at h
            · simp at h
          · simp at h
        · simp at h
      · simp at h
    | value f => simp [qeval, qCall] at h
    | invoke r m => simp [qeval, qCall] at h
  | _ => simp [qeval, qCall] at h
end Go.Sx

/- The symbolic executor 'Sx': operations that make or change memory; calls. -/
namespace Go.Sx
open Go

/-- One block is another one now; all else is as it was. -/
structure Upd (w w' : World) (b : Nat) (o : Obj) : Prop where
  at' : w'.heap[b]? = some o
  off : ∀ x, x ≠ b → w'.heap[x]? = w.heap[x]?
  os : w'.os = w.os
  out : w'.output = w.output
theorem OwnL.upd' {w w' : World} {A B : List (Nat × Obj)} {b : Nat} {o o' : Obj} (h : OwnL w (A ++ (b, o) :: B)) (e : Upd w w' b o') : OwnL w' (A ++ (b, o') :: B) := by
  refine ⟨by simpa using h.1, ?_⟩
  have hn := h.1
  simp only [List.map_append, List.map_cons, List.nodup_append, List.nodup_cons] at hn
  intro x hx
  by_cases hxb : x.1 = b
  · have : x = (b, o') := by
      rcases List.mem_append.1 hx with hx | hx
      · exact absurd hxb (hn.2.2 x.1 (List.mem_map.2 ⟨x, hx, rfl⟩) b (by simp))
      · rcases List.mem_cons.1 hx with rfl | hx
        · rfl
        · exact absurd (List.mem_map.2 ⟨x, hx, hxb⟩) hn.2.1.1
    subst this
    exact e.at'
  · rw [e.off _ hxb]
    refine h.2 x ?_
    rcases List.mem_append.1 hx with hx | hx
    · exact List.mem_append_left _ hx
    · rcases List.mem_cons.1 hx with rfl | hx
      · exact absurd rfl hxb
      · exact List.mem_append_right _ (List.mem_cons_of_mem _ hx)

theorem upd_setCell {w : World} {b off : Nat} {c : Array Value} {t : TypeId} {fz : Nat × Nat} (h : w.heap[b]? = some (.cells c t fz)) (v : Value) : Upd w (w.setCell ⟨b, off, none⟩ v) b (.cells (c.setIfInBounds off v) t fz) := by
  refine ⟨?_, fun x hx => ?_, rfl, rfl⟩
  · simp [World.setCell, Array.getElem?_modify, h]
  · simp only [World.setCell, Array.getElem?_modify]
    rw [if_neg (fun e => hx e.symm)]
theorem Upd.trans {w w' w'' : World} {b : Nat} {o o' : Obj} (h : Upd w w' b o) (h' : Upd w' w'' b o') : Upd w w'' b o' :=
  ⟨h'.at', fun x hx => (h'.off x hx).trans (h.off x hx), h'.os.trans h.os, h'.out.trans h.out⟩
theorem Upd.refl {w : World} {b : Nat} {o : Obj} (h : w.heap[b]? = some o) : Upd w w b o := ⟨h, fun _ _ => rfl, rfl, rfl⟩
theorem oneCell_of {v : Value} (h : cellB v = true) : v.oneCell' = true := by cases v <;> simp_all [cellB, Value.oneCell']
theorem storeCells_run {P : Program} {b off : Nat} {t : TypeId} {fz : Nat × Nat} (hfz : fz.2 ≤ off) : ∀ (vs : List Value) (i : Nat) (w : World) (c : Array Value), w.heap[b]? = some (.cells c t fz) → off + i + vs.length ≤ c.size → (∀ v ∈ vs, cellB v = true) →
    ∃ w', (storeCells ⟨b, off, none⟩ vs i).run P w = .ok () w' ∧ Upd w w' b (.cells ((vs.zipIdx i).foldl (fun (cs : Array Value) (x : Value × Nat) => cs.setIfInBounds (off + x.2) x.1) c) t fz)
  | [], i, w, c, h, _, _ => ⟨w, by simp [storeCells], by simpa using Upd.refl h⟩
  | v :: r, i, w, c, h, hl, hv => by
    simp only [List.length_cons] at hl
    have hu := upd_setCell (off := off + i) h v
    obtain ⟨w', h1, h2⟩ := storeCells_run (P := P) (off := off) hfz r (i + 1) (w.setCell ⟨b, off + i, none⟩ v) (c.setIfInBounds (off + i) v) hu.at' (by simp; omega) (fun x hx => hv x (by simp [hx]))
    refine ⟨w', ?_, by simpa using hu.trans h2⟩
    have hc : w.cell? ⟨b, off + i, none⟩ = some (c[off + i]'(by omega)) := by rw [cell_of_heap h]; simp
    have hf : w.frozen? ⟨b, off + i, none⟩ = false := by
      have : ¬ (off + i < fz.2) := by omega
      simp [World.frozen?, h, this]
    simp only [storeCells, Sem.run_bind, addr_add, run_store P w _ v .plain (oneCell_of (hv v (by simp))), hc, hf, Bool.false_eq_true, if_false, Result.andThen_ok, h1]
theorem cells_toList_one {x : SV} {l : List SV} {N : Nat} {ids : Nat → Nat} (h1 : SV.oks N ids l) (h2 : l.all SV.one = true) : ∀ v ∈ SV.dens ids l, cellB v = true := by
  intro v hv
  rw [dens_eq] at hv
  obtain ⟨y, hy, rfl⟩ := List.mem_map.1 hv
  exact (one_cells (List.all_eq_true.1 h2 y hy) N ids ((oks_iff _ _ _).1 h1 y hy)).2

/-- A store. -/
theorem storeAt_run {P : Program} {t : TypeId} {d : TypeDesc} (hu : P.underlying t = some d) {b off : Nat} {ty : TypeId} {v : SV} {l : List SV} {N : Nat} {ids : Nat → Nat} (hl : svCells v = some l) (hv : v.ok N ids) (hlen : l.length = P.cellsOf t)
    {w : World} {c : Array Value} {fz : Nat × Nat} (hb : w.heap[b]? = some (.cells c ty fz)) (hfz : fz.2 ≤ off) (hle : off + l.length ≤ c.size) :
    ∃ w', (Instr.storeAt t (.pointer (some ⟨b, off, none⟩)) (v.den ids)).run P w = .ok () w' ∧ Upd w w' b (.cells (((SV.dens ids l).zipIdx 0).foldl (fun (cs : Array Value) (x : Value × Nat) => cs.setIfInBounds (off + x.2) x.1) c) ty fz) := by
  obtain ⟨h1, h2, h3⟩ := svCells_sound hl hv
  obtain ⟨w', hw1, hw2⟩ := storeCells_run (P := P) (off := off) hfz (SV.dens ids l) 0 w c hb (by simp [dens_eq]; omega) (cells_toList_one (x := v) h2 h3)
  refine ⟨w', ?_, hw2⟩
  simp only [Instr.storeAt, Instr.sureAddr, Sem.run_bind, Sem.run_pure, Result.andThen_ok, storeVar, sizeOf_run hu, h1]
  have hs : ¬ (SV.dens ids l).toArray.size ≠ P.cellsOf t := by simp [dens_eq, hlen]
  rw [if_neg hs]
  simpa using hw1

theorem flat_get {α : Type} (z : List α) : ∀ (n i : Nat), i < n * z.length → ((List.replicate n z).flatten)[i]? = z[i % z.length]?
  | 0, i, h => by simp at h
  | n + 1, i, h => by
    rw [List.replicate_succ, List.flatten_cons, List.getElem?_append]
    split
    · rename_i hlt; rw [Nat.mod_eq_of_lt hlt]
    · rename_i hge
      have hge : z.length ≤ i := Nat.le_of_not_lt hge
      rw [Nat.add_mul] at h
      rw [flat_get z n (i - z.length) (by omega), ← Nat.mod_eq_sub_mod hge]
theorem flat_len {α : Type} (z : List α) (n : Nat) : ((List.replicate n z).flatten).length = n * z.length := by simp

/-- What is made. -/
structure Made (P : Program) (H : Hp) (s : Sem Next) (so : SO) (mk : Nat → Nat → SV) (obj : Obj) : Prop where
  den : ∀ b, so.den H.ids b = [(b, obj)]
  ok : so.ok H.length H.ids
  run : ∀ (w : World) (k : Nat) (ids : Nat → Nat), ids k = w.heap.size → s.run P w = .ok (.value ((mk k w.heap.size).den ids)) (w.alloc obj)
  vok : ∀ (k b : Nat) (ids : Nat → Nat), ids k = b → (mk k b).ok (k + 1) ids
theorem aeval_sound {P : Program} {e : Env} (he : e.Ok) {o : Oper} {so : SO} {mk : Nat → Nat → SV} (h : aeval P e.gl e.H e.fr o.op = some (so, mk)) (hx : inX e.X o.op.operands.toList) : ∃ obj, Made P e.H (execOp e.a.eval o) so mk obj := by
  obtain ⟨dst, op, type, pos, after, guard⟩ := o
  simp only at h hx
  cases op with
  | alloc t =>
    simp only [aeval] at h
    split at h
    · rename_i z hz
      simp only [Option.some.injEq, Prod.mk.injEq] at h; obtain ⟨rfl, rfl⟩ := h
      obtain ⟨zv, h1, h2, h3, h4⟩ := zeroT_sound hz e.H.length e.H.ids
      refine ⟨.cells (SV.dens e.H.ids z).toArray t, fun b => rfl, ⟨h3, h4⟩, fun w k ids hk => ?_, fun k b ids _ => by simp [SV.ok]⟩
      simp [execOp, Instr.alloc, h1, newVar, newRow, h2, SV.den, hk]
    · simp at h
  | box t x =>
    simp only [aeval] at h
    split at h
    · rename_i v hv
      split at h
      · rename_i l hl
        simp only [Option.some.injEq, Prod.mk.injEq] at h; obtain ⟨rfl, rfl⟩ := h
        have h1 := opv_sound he hv hx
        have h2 := svCells_sound hl h1.2
        refine ⟨.cells (SV.dens e.H.ids l).toArray t, fun b => rfl, h2.2, fun w k ids hk => ?_, fun k b ids _ => by simp [SV.ok]⟩
        simp [execOp, Instr.box, h1.1, newVar, newRow, h2.1, SV.den, hk]
      · simp at h
    · simp at h
  | buildSlice t len ps =>
    have hx' : inX e.X (ps.toList.map (·.2)) := by simpa [Op.operands] using hx
    simp only [aeval] at h
    split at h
    · rename_i el hu
      split at h
      · rename_i z hz
        split at h
        · rename_i hle
          simp only [Bool.and_eq_true] at hle
          obtain ⟨hle, hdd⟩ := hle
          have hle := Nat.le_of_ble_eq_true hle
          split at h
          · rename_i hzl
            have hzl := Nat.eq_of_beq_eq_true hzl
            split at h
            · rename_i cs hcs
              simp only [Option.some.injEq, Prod.mk.injEq] at h; obtain ⟨rfl, rfl⟩ := h
              obtain ⟨zv, h1, h2, h3, h4⟩ := zeroT_sound hz e.H.length e.H.ids
              have hmem : ∀ x ∈ (List.replicate len z).flatten, x ∈ z := by
                intro x hx
                obtain ⟨l, hl, hxl⟩ := List.mem_flatten.1 hx
                rw [(List.mem_replicate.1 hl).2] at hxl; exact hxl
              have hb := buildP_sound he hcs hx' ((oks_iff _ _ _).2 fun x hx => (oks_iff _ _ _).1 h3 x (hmem x hx)) (List.all_eq_true.2 fun x hx => List.all_eq_true.1 h4 x (hmem x hx))
              obtain ⟨d, hd⟩ := Option.isSome_iff_exists.1 hdd
              refine ⟨.cells (SV.dens e.H.ids cs).toArray el, fun b => rfl, hb.2, fun w k ids hk => ?_, fun k b ids hk => by simp [SV.ok, hk, Cap.v]⟩
              have harr : ∀ zero : Array Value, (len * P.cellsOf el ≠ 0 → zero = zv.cells) → (Array.range (len * P.cellsOf el)).map (zero[· % zero.size]!) = (SV.dens e.H.ids (List.replicate len z).flatten).toArray := by
                intro zero hzero
                apply Array.ext_getElem?
                intro j
                simp only [dens_eq, List.getElem?_toArray, List.getElem?_map, Array.getElem?_map]
                by_cases hj : j < len * P.cellsOf el
                · have := hzero (by omega)
                  subst this
                  have hr : (Array.range (len * P.cellsOf el))[j]? = some j := by rw [Array.getElem?_eq_getElem (by simp; exact hj)]; simp
                  rw [← hzl] at hj
                  rw [flat_get z len j hj]
                  have hzp : 0 < z.length := by rcases Nat.eq_zero_or_pos z.length with h0 | h0; (rw [h0] at hj; simp at hj); exact h0
                  have hmod : j % z.length < z.length := Nat.mod_lt _ hzp
                  have hsz : zv.cells.size = z.length := by rw [h2]; simp [dens_eq]
                  rw [hr]
                  simp only [Option.map_some, hsz]
                  rw [getElem!_pos _ _ (by rw [hsz]; exact hmod)]
                  simp [h2, dens_eq, hmod]
                · have hr : (Array.range (len * P.cellsOf el))[j]? = none := by rw [Array.getElem?_eq_none]; simp; omega
                  rw [hr, List.getElem?_eq_none (by rw [flat_len, hzl]; omega)]
                  rfl
              have hl : (ps.map fun (x : Nat × Operand) => (x.1, e.a.eval x.2)).toList = ps.toList.map fun (i, x) => (i, e.a.eval x) := by simp
              simp only [execOp, Sem.run_bind, Instr.buildSlice, underlying_run hu, sizeOf_run hd, Result.andThen_ok]
              rw [if_neg (by omega)]
              by_cases h0 : len * P.cellsOf el = 0
              · rw [if_pos h0]
                simp only [Sem.run_bind, Sem.run_pure, Result.andThen_ok, harr #[] (fun h => absurd h0 h), hl, hb.1, newRow, run_newObj, SV.den, Cap.v, World.alloc_eq]
              · rw [if_neg h0]
                simp only [Sem.run_bind, Sem.run_pure, Result.andThen_ok, h1, harr zv.cells (fun _ => rfl), hl, hb.1, newRow, run_newObj, SV.den, Cap.v, World.alloc_eq]
            · simp at h
          · simp at h
        · simp at h
      · simp at h
    · simp at h
  | makeMap t r =>
    cases r with
    | some x => simp [aeval] at h
    | none =>
      simp only [aeval, Option.some.injEq, Prod.mk.injEq] at h; obtain ⟨rfl, rfl⟩ := h
      refine ⟨.map #[] 0, fun b => rfl, by simp [SO.ok], fun w k ids hk => ?_, fun k b ids _ => by simp [SV.ok]⟩
      simp [execOp, Instr.makeMap, SV.den, hk]
  | _ => simp [aeval] at h

/-- The objects of a heap around one of them. -/
theorem own_split {w : World} {H : Hp} {F : List (Nat × Obj)} (hw : OwnL w (H.den ++ F)) {k b : Nat} {o : SO} (hk : nthO H k = some (b, some o)) :
    ∃ A B, (∀ o' : SO, Hp.den (updL H k (b, some o')) = A ++ o'.den H.ids b ++ B) ∧ OwnL w (A ++ (o.den H.ids b ++ (B ++ F))) := by
  obtain ⟨A, B, hAB⟩ := denL_split H.ids hk
  refine ⟨A, B, fun o' => ?_, ?_⟩
  · unfold Hp.den; rw [ids_updL hk]; exact (hAB (b, some o')).1
  · have := (hAB (b, none)).2
    unfold Hp.den at hw
    rw [this] at hw
    simpa [Ent.den, List.append_assoc] using hw
theorem overC_ok {N : Nat} {ids : Nat → Nat} {sz n i j : Nat} {cell : Nat → Nat → SV} {l : List SV} (h : ∀ i, i < n → ∀ j, j < sz → (cell i j).ok N ids ∧ (cell i j).one = true) (h1 : SV.oks N ids l) (h2 : l.all SV.one = true) :
    ∀ i', i' < n → ∀ j', j' < sz → (overC cell i j l i' j').ok N ids ∧ (overC cell i j l i' j').one = true := by
  intro i' hi' j' hj'
  unfold overC
  split
  · split
    · split
      · rename_i z hz
        rw [nthO_eq] at hz
        have := List.mem_of_getElem? hz
        exact ⟨(oks_iff _ _ _).1 h1 z this, List.all_eq_true.1 h2 z this⟩
      · exact h i' hi' j' hj'
    · exact h i' hi' j' hj'
  · exact h i' hi' j' hj'
theorem arrV_over (ids : Nat → Nat) {sz n i j : Nat} {cell : Nat → Nat → SV} {l : List SV} (hi : i < n) (hj : j + l.length ≤ sz) :
    (((SV.dens ids l).zipIdx 0).foldl (fun (cs : Array Value) (x : Value × Nat) => cs.setIfInBounds (i * sz + j + x.2) x.1) (arrV ids sz n cell)) = arrV ids sz n (overC cell i j l) := by
  have hle : (i + 1) * sz ≤ n * sz := Nat.mul_le_mul_right _ hi
  rw [Nat.add_mul] at hle
  have hf := foldSet (SV.dens ids l) (i * sz + j) 0 (arrV ids sz n cell) (by rw [size_arrV]; simp [dens_eq]; omega)
  apply Array.ext_getElem?
  intro x
  rw [hf.2 x]
  simp only [dens_eq, List.length_map, Nat.add_zero, List.getElem?_map]
  by_cases hx : x < n * sz
  · have hs : 0 < sz := by rcases Nat.eq_zero_or_pos sz with h | h; (subst h; simp at hx); exact h
    have hxi : x / sz < n := (Nat.div_lt_iff_lt_mul hs).2 hx
    have hxj : x % sz < sz := Nat.mod_lt _ hs
    have hxe : x / sz * sz + x % sz = x := by rw [Nat.mul_comm]; exact Nat.div_add_mod x sz
    have g1 := arrV_get ids cell hxi hxj
    have g2 := arrV_get ids (overC cell i j l) hxi hxj
    rw [hxe] at g1 g2
    rw [g1, g2]
    by_cases hin : i * sz + j ≤ x ∧ x < i * sz + j + l.length
    · rw [if_pos hin]
      have hdi : x / sz = i := by
        have h1 : i * sz ≤ x := by omega
        have h2 : x < (i + 1) * sz := by rw [Nat.add_mul]; omega
        exact Nat.div_eq_of_lt_le h1 h2
      have hmo : x % sz = x - i * sz := by rw [hdi] at hxe; omega
      have e1 : overC cell i j l (x / sz) (x % sz) = l[x - (i * sz + j)]'(by omega) := by
        unfold overC
        rw [if_pos hdi, if_pos (by omega), nthO_eq, List.getElem?_eq_getElem (by omega)]
        simp only
        congr 1
        omega
      rw [e1, List.getElem?_eq_getElem (by omega)]
      rfl
    · rw [if_neg hin]
      have e1 : overC cell i j l (x / sz) (x % sz) = cell (x / sz) (x % sz) := by
        unfold overC
        split
        · rename_i hdi
          split
          · rename_i hjj
            have hmo : x % sz = x - i * sz := by rw [hdi] at hxe; omega
            rw [nthO_eq, List.getElem?_eq_none (by rw [hdi] at hxe; omega)]
          · rfl
        · rfl
      rw [e1]
  · have hx' : n * sz ≤ x := by omega
    rw [if_neg (by omega), Array.getElem?_eq_none (by rw [size_arrV]; exact hx'), Array.getElem?_eq_none (by rw [size_arrV]; exact hx')]

theorem over_dens_tl (ids : Nat → Nat) {l r ys : List SV} {o : Nat} (h : over l o ys = some r) (tl : List Value) :
    (((SV.dens ids ys).zipIdx 0).foldl (fun (cs : Array Value) (x : Value × Nat) => cs.setIfInBounds (o + x.2) x.1) (SV.dens ids l ++ tl).toArray) = (SV.dens ids r ++ tl).toArray := by
  obtain ⟨h1, h2, h3⟩ := over_spec h
  have := foldSet (SV.dens ids ys) o 0 (SV.dens ids l ++ tl).toArray (by simp [dens_eq]; omega)
  apply Array.ext_getElem?
  intro j
  rw [this.2 j]
  simp only [dens_eq, List.getElem?_toArray, List.length_map, Nat.add_zero, List.getElem?_append, h1]
  by_cases hj : o ≤ j ∧ j < o + ys.length
  · rw [if_pos hj, if_pos (by omega), List.getElem?_map, List.getElem?_map, h3 j, if_pos hj]
  · rw [if_neg hj]
    by_cases hjl : j < l.length
    · rw [if_pos hjl, if_pos hjl, List.getElem?_map, List.getElem?_map, h3 j, if_neg hj]
    · rw [if_neg hjl, if_neg hjl]
theorem seval_sound {P : Program} {e : Env} (he : e.Ok) {w : World} {F : List (Nat × Obj)} (hw : OwnL w (e.H.den ++ F)) {o : Oper} {H' : Hp} {vc : Prop} (h : seval P e.gl e.H e.fr o.op = some (H', vc)) (hvc : vc) (hx : inX e.X o.op.operands.toList) :
    ∃ w', (execOp e.a.eval o).run P w = .ok .skip w' ∧ OwnL w' (H'.den ++ F) ∧ H'.ok ∧ H'.ids = e.H.ids ∧ H'.length = e.H.length ∧ w'.os = w.os ∧ w'.output = w.output := by
  obtain ⟨dst, op, type, pos, after, guard⟩ := o
  simp only at h hx
  cases op with
  | store t x y =>
    have hx1 := (inX_cons (l := [y])).1 (show inX e.X [x, y] from hx)
    simp only [seval] at h
    split at h
    · rename_i a ha
      split at h
      · rename_i v hv
        split at h
        · rename_i l hl
          split at h
          · rename_i hlen
            simp only [Bool.and_eq_true] at hlen
            obtain ⟨hlen, hdd⟩ := hlen
            have hlen := Nat.eq_of_beq_eq_true hlen
            obtain ⟨d, hd⟩ := Option.isSome_iff_exists.1 hdd
            have h1 := opv_sound he ha hx1.1
            have h2 := opv_sound he hv hx1.2
            have h3 := svCells_sound hl h2.2
            have fin : ∀ {k b off : Nat} {o o' : SO} {ty : TypeId} {c c' : Array Value} {fz : Nat × Nat}, fz.2 ≤ off → nthO e.H k = some (b, some o) → a.den e.H.ids = .pointer (some ⟨b, off, none⟩) → o.den e.H.ids b = [(b, .cells c ty fz)] → o'.den e.H.ids b = [(b, .cells c' ty fz)] → off + l.length ≤ c.size →
                (((SV.dens e.H.ids l).zipIdx 0).foldl (fun (cs : Array Value) (x : Value × Nat) => cs.setIfInBounds (off + x.2) x.1) c) = c' → o'.ok e.H.length e.H.ids → H' = updL e.H k (b, some o') →
                ∃ w', (execOp e.a.eval ⟨dst, .store t x y, type, pos, after, guard⟩).run P w = .ok .skip w' ∧ OwnL w' (H'.den ++ F) ∧ H'.ok ∧ H'.ids = e.H.ids ∧ H'.length = e.H.length ∧ w'.os = w.os ∧ w'.output = w.output := by
              intro k b off o o' ty c c' fz hfz hk hp ho ho' hle hc' hok' hH'
              obtain ⟨A, B, hAB, hAw⟩ := own_split hw hk
              rw [ho] at hAw
              have hb : w.heap[b]? = some (.cells c ty fz) := hAw.2 (b, .cells c ty fz) (by simp)
              obtain ⟨w', r1, r2⟩ := storeAt_run (P := P) hd hl h2.2 hlen hb hfz hle
              rw [hc'] at r2
              refine ⟨w', ?_, ?_, ?_, ?_, ?_, r2.os, r2.out⟩
              · simp only [execOp, Sem.run_bind, h1.1, h2.1, hp, r1, Result.andThen_ok, Sem.run_pure]
              · rw [hH', hAB o', ho']
                have := OwnL.upd' (A := A) (B := B ++ F) (by simpa using hAw) r2
                simpa using this
              · rw [hH']; exact ok_updL he.hok hk hok'
              · rw [hH']; exact ids_updL hk
              · rw [hH']; exact length_updL _ _ _
            unfold storeH at h
            split at h
            · split at h
              · rename_i hk
                split at h
                · split at h
                  · rename_i cs' hcs'
                    simp only [Option.some.injEq, Prod.mk.injEq] at h; obtain ⟨rfl, rfl⟩ := h
                    have hoo := he.hok _ _ _ hk
                    have e1 := over_spec hcs'
                    exact fin (o' := .cells cs' _) (fz := (0, 0)) (Nat.zero_le _) hk (by simp only [SV.den, ids_of hk]) rfl rfl (by simp [dens_eq]; omega) (over_dens _ hcs') (over_oks hcs' hoo.1 hoo.2 h3.2.1 h3.2.2) rfl
                  · simp at h
                · split at h
                  · rename_i hfb
                    have hfb := Nat.le_of_ble_eq_true hfb
                    split at h
                    · rename_i cs' hcs'
                      simp only [Option.some.injEq, Prod.mk.injEq] at h; obtain ⟨rfl, rfl⟩ := h
                      have hoo := he.hok _ _ _ hk
                      have e1 := over_spec hcs'
                      exact fin (o' := .row cs' _ _ _ _ _ _ _) (Nat.le_trans hoo.2.2 hfb) hk (by simp only [SV.den, ids_of hk]) rfl rfl (by simp [dens_eq]; omega) (over_dens_tl _ hcs' _) ⟨over_oks hcs' hoo.1.1 hoo.1.2 h3.2.1 h3.2.2, hoo.2⟩ rfl
                    · simp at h
                  · simp at h
                · simp at h
              · simp at h
            · rename_i k0 i0 sz0 j0
              split at h
              · rename_i hk
                split at h
                · split at h
                  · rename_i cs' hcs'
                    simp only [Option.some.injEq, Prod.mk.injEq] at h; obtain ⟨rfl, rfl⟩ := h
                    have hoo := he.hok _ _ _ hk
                    have e1 := over_spec hcs'
                    exact fin (o' := .cells cs' _) (fz := (0, 0)) (Nat.zero_le _) hk (by simp only [SV.den, ids_of hk]) rfl rfl (by simp [dens_eq]; omega) (over_dens _ hcs') (over_oks hcs' hoo.1 hoo.2 h3.2.1 h3.2.2) rfl
                  · simp at h
                · split at h
                  · rename_i hfb
                    have hfb := Nat.le_of_ble_eq_true hfb
                    split at h
                    · rename_i cs' hcs'
                      simp only [Option.some.injEq, Prod.mk.injEq] at h; obtain ⟨rfl, rfl⟩ := h
                      have hoo := he.hok _ _ _ hk
                      have e1 := over_spec hcs'
                      exact fin (o' := .row cs' _ _ _ _ _ _ _) (Nat.le_trans hoo.2.2 hfb) hk (by simp only [SV.den, ids_of hk]) rfl rfl (by simp [dens_eq]; omega) (over_dens_tl _ hcs' _) ⟨over_oks hcs' hoo.1.1 hoo.1.2 h3.2.1 h3.2.2, hoo.2⟩ rfl
                    · simp at h
                  · simp at h
                · rename_i ty sz' n cell
                  split at h
                  · rename_i hsz
                    simp only [Bool.and_eq_true] at hsz
                    have hs := Nat.eq_of_beq_eq_true hsz.1
                    have hle := Nat.le_of_ble_eq_true hsz.2
                    subst hs
                    simp only [Option.some.injEq, Prod.mk.injEq] at h; obtain ⟨rfl, rfl⟩ := h
                    have hoo := he.hok _ _ _ hk
                    have hmul := Nat.mul_le_mul_right sz0 (show _ + 1 ≤ n from hvc)
                    rw [Nat.add_mul] at hmul
                    exact fin (fz := (0, 0)) (o' := .arr ty sz0 n (overC cell _ _ l)) (Nat.zero_le _) hk (by simp only [SV.den, ids_of hk]) (by simp only [SO.den]; rw [if_neg (by omega)]) (by simp only [SO.den]; rw [if_neg (by omega)]) (by rw [size_arrV]; omega) (arrV_over _ hvc hle) (overC_ok hoo h3.2.1 h3.2.2) rfl
                  · simp at h
                · simp at h
              · simp at h
            · simp at h
          · simp at h
        · simp at h
      · simp at h
    · simp at h
  | _ => simp [seval] at h

/-! ### Calls -/
theorem enterQ_sound {P : Program} {g n : Nat} {c : Code} (h : enterQ P g = some (c, n)) : ∃ f, P.funcs[g]? = some f ∧ f.body = some c ∧ f.ntmps = n ∧ ∀ args w, (callFunc g args).run P w = .ok (.enter g args) w := by
  unfold enterQ at h
  split at h
  · rename_i f hf
    split at h
    · simp at h
    · rename_i hn
      split at h
      · rename_i c' hc
        simp only [Option.some.injEq, Prod.mk.injEq] at h; obtain ⟨rfl, rfl⟩ := h
        refine ⟨f, hf, hc, rfl, fun args w => ?_⟩
        have h1 : f.name ≠ "runtime.NumGoroutine" := by simpa using hn
        simp [callFunc, hf, h1, hc]
      · simp at h
  · simp at h
theorem dens_append (ids : Nat → Nat) (l m : List SV) : SV.dens ids (l ++ m) = SV.dens ids l ++ SV.dens ids m := by simp [dens_eq]
theorem oks_append {N : Nat} {ids : Nat → Nat} {l m : List SV} : SV.oks N ids (l ++ m) ↔ SV.oks N ids l ∧ SV.oks N ids m := by
  simp only [oks_iff, List.mem_append]
  exact ⟨fun h => ⟨fun x hx => h x (.inl hx), fun x hx => h x (.inr hx)⟩, fun h x hx => hx.elim (h.1 x) (h.2 x)⟩
theorem ceval_sound {P : Program} {e : Env} (he : e.Ok) {o : Oper} {g : Nat} {args : List SV} (h : ceval e.gl e.H e.fr o.op = some (g, args)) (hx : inX e.X o.op.operands.toList) :
    (∀ w, (execOp e.a.eval o).run P w = (callFunc g (SV.dens e.H.ids args).toArray).run P w) ∧ SV.oks e.H.length e.H.ids args := by
  obtain ⟨dst, op, type, pos, after, guard⟩ := o
  simp only at h hx
  cases op with
  | call c =>
    obtain ⟨callee, as, ats⟩ := c
    cases callee with
    | value x =>
      have hxx : inX e.X [x] ∧ inX e.X as.toList := by
        have e1 : (Op.call ⟨.value x, as, ats⟩).operands.toList = [x] ++ as.toList := by simp [Op.operands, Call.operands]
        rw [e1] at hx; exact inX_append.1 hx
      simp only [ceval] at h
      split at h
      · rename_i g' l cap hf
        split at h
        · rename_i vs hvs
          simp only [Option.some.injEq, Prod.mk.injEq] at h; obtain ⟨rfl, rfl⟩ := h
          have h1 := opv_sound he hf hxx.1
          have h2 := opvs_sound he hvs hxx.2
          simp only [SV.ok, SV.den] at h1
          refine ⟨fun w => ?_, oks_append.2 ⟨oks_append.2 ⟨h1.2.1, h2.2⟩, h1.2.2⟩⟩
          have e1 : as.map e.a.eval = (SV.dens e.H.ids vs).toArray := Array.ext' (by rw [Array.toList_map, h2.1])
          simp only [execOp, resolve, h1.1, e1, Deferred.ofValue, Sem.run_bind, Sem.run_pure, Result.andThen_ok, invoke, dens_append]
          congr 2
          simp
        · simp at h
      · simp at h
    | builtin b => simp [ceval] at h
    | invoke r m => simp [ceval] at h
  | _ => simp [ceval] at h
end Go.Sx
