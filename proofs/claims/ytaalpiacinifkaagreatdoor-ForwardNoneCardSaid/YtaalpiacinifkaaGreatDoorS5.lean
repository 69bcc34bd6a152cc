import Derived.Test.YtaalpiacinifkaaGreatDoorS4
/- Part of the proof that ForwardNone of law 21 returns true whatever it is called with. No condition. -/
set_option linter.all false
/- The symbolic executor 'Sx': rows: cells that are read and written, copies. -/
namespace Go.Sx
open Go

def byteCells : List UInt8 → List SV
  | [] => []
  | b :: r => .lit .u8 b.toNat :: byteCells r
def cellsAt (H : Hp) (k o n : Nat) : Option (List SV) :=
  match nthO H k with
  | some (_, some so) => match so with
    | .cells cs _ => sub cs o n
    | .row cs _ _ _ _ _ _ _ => sub cs o n
    | _ => none
  | _ => none
def putAt (H : Hp) (k o : Nat) (l : List SV) : Option Hp :=
  match nthO H k with
  | some (b, some so) => match so with
    | .cells cs ty => match over cs o l with
      | some cs' => some (updL H k (b, some (.cells cs' ty)))
      | none => none
    | .row cs tl m mx es fz fb ty => match Nat.ble fb o with
      | false => none
      | true => match over cs o l with
        | some cs' => some (updL H k (b, some (.row cs' tl m mx es fz fb ty)))
        | none => match Nat.ble o cs.length && (Nat.ble cs.length (o + l.length) && Nat.ble (o + l.length) (cs.length + m)) with
          | true => some (updL H k (b, some (.row (cs.take o ++ l) (tl.drop (o + l.length - cs.length)) (m - (o + l.length - cs.length)) mx es fz fb ty)))
          | false => none
    | _ => none
  | _ => none
/-- The first n elements of a slice, or a text, as cells. -/
def firstS (H : Hp) (sz n : Nat) (x : SV) : Option (List SV) :=
  match x with
  | .sl k sz' lo _ len _ => match n with
    | 0 => some []
    | n + 1 => match Nat.beq sz sz' && Nat.ble (n + 1) len with
      | true => cellsAt H k (lo * sz) ((n + 1) * sz)
      | false => none
  | .str l => some (byteCells (l.take n))
  | _ => none
def lenS : SV → Option Nat
  | .sl _ _ _ _ n _ => some n
  | .str l => some l.length
  | _ => none
theorem byteCells_ok (N : Nat) (ids : Nat → Nat) : ∀ l : List UInt8, SV.oks N ids (byteCells l) ∧ (byteCells l).all SV.one = true ∧ SV.dens ids (byteCells l) = l.map fun b => .int .u8 b.toNat
  | [] => by simp [byteCells, SV.oks, SV.dens]
  | b :: r => by
    have := byteCells_ok N ids r
    simp [byteCells, SV.oks, SV.ok, SV.one, SV.dens, SV.den, this]
theorem cellsAt_sound {P : Program} {H : Hp} (hok : H.ok) {w : World} {F : List (Nat × Obj)} (hw : OwnL w (H.den ++ F)) {k o n : Nat} {cs : List SV} (h : cellsAt H k o n = some cs) :
    (loadCells ⟨H.ids k, o, none⟩ n).run P w = .ok (SV.dens H.ids cs).toArray w ∧ SV.oks H.length H.ids cs ∧ cs.all SV.one = true ∧ cs.length = n := by
  unfold cellsAt at h
  split at h
  · rename_i b so hk
    have key : ∀ {all : List SV}, ((∃ ty, so = .cells all ty) ∨ ∃ tl m mx es fz fb ty, so = .row all tl m mx es fz fb ty) → sub all o n = some cs → (loadCells ⟨H.ids k, o, none⟩ n).run P w = .ok (SV.dens H.ids cs).toArray w ∧ SV.oks H.length H.ids cs ∧ cs.all SV.one = true ∧ cs.length = n := by
      intro all hso hs
      obtain ⟨h1, h2⟩ := sub_spec hs
      have hall : SV.oks H.length H.ids all ∧ all.all SV.one = true := by
        have := hok k b _ hk
        rcases hso with ⟨ty, rfl⟩ | ⟨tl, m, mx, es, fz, fb, ty, rfl⟩
        · exact this
        · exact this.1
      have hmem : ∀ x ∈ cs, x ∈ all := by
        intro x hx
        obtain ⟨j, hj, rfl⟩ := List.getElem_of_mem hx
        have := h2 j (by omega)
        rw [List.getElem?_eq_getElem hj] at this
        exact List.mem_of_getElem? this
      refine ⟨?_, (oks_iff _ _ _).2 fun x hx => (oks_iff _ _ _).1 hall.1 x (hmem x hx), List.all_eq_true.2 fun x hx => List.all_eq_true.1 hall.2 x (hmem x hx), h1⟩
      have := run_loadCells_list (P := P) w ⟨H.ids k, o, none⟩ (SV.dens H.ids cs) (fun j v hv => by
        rw [addr_add]
        rw [dens_eq, List.getElem?_map] at hv
        cases hx : cs[j]? with
        | none => rw [hx] at hv; simp at hv
        | some y =>
          rw [hx] at hv
          simp only [Option.map_some, Option.some.injEq] at hv; subst hv
          have hj : j < n := by have := (List.getElem?_eq_some_iff.1 hx).1; omega
          exact cells_get hw hk hso _ _ (by rw [h2 j hj]; exact hx))
      rw [show (SV.dens H.ids cs).length = n by simp [dens_eq, h1]] at this
      exact this
    split at h
    · exact key (.inl ⟨_, rfl⟩) h
    · exact key (.inr ⟨_, _, _, _, _, _, _, rfl⟩) h
    · simp at h
  · simp at h
theorem firstS_sound {P : Program} {H : Hp} (hok : H.ok) {w : World} {F : List (Nat × Obj)} (hw : OwnL w (H.den ++ F)) {sz n : Nat} {x : SV} (hx : x.ok H.length H.ids) {cs : List SV} (h : firstS H sz n x = some cs) :
    (Builtin.firstCells sz n (x.den H.ids)).run P w = .ok (SV.dens H.ids cs).toArray w ∧ SV.oks H.length H.ids cs ∧ cs.all SV.one = true := by
  unfold firstS at h
  split at h
  · rename_i k sz' lo a len cap
    simp only [SV.ok] at hx
    split at h
    · simp only [Option.some.injEq] at h; subst h
      refine ⟨?_, by simp [SV.oks], by simp⟩
      cases a with
      | none => simp [SV.den, Builtin.firstCells, SV.dens]
      | some a =>
        have := run_loadCells_list (P := P) w a [] (fun j v hv => by simp at hv)
        simp only [SV.den, Builtin.firstCells, Nat.zero_mul, SV.dens]
        simpa using this
    · rename_i n
      split at h
      · rename_i hb
        simp only [Bool.and_eq_true] at hb
        have hs := Nat.eq_of_beq_eq_true hb.1
        have hl := Nat.le_of_ble_eq_true hb.2
        subst hs
        obtain ⟨h1, h2⟩ := hx
        have h2 := h2.resolve_left (by omega)
        have := cellsAt_sound (P := P) hok hw h
        rw [h2.2]
        exact ⟨by simpa [SV.den, Builtin.firstCells] using this.1, this.2.1, this.2.2.1⟩
      · simp at h
  · rename_i l
    simp only [Option.some.injEq] at h; subst h
    obtain ⟨h1, h2, h3⟩ := byteCells_ok H.length H.ids (l.take n)
    refine ⟨?_, h1, h2⟩
    rw [h3]
    simp only [SV.den, Builtin.firstCells, Sem.run_pure]
    have : ((ByteArray.mk l.toArray).extract 0 n).data = (l.take n).toArray := by
      apply Array.ext'
      simp [ByteArray.extract, ByteArray.copySlice]
    rw [this]
    simp
  · simp at h
theorem lenS_sound {P : Program} {w : World} {x : SV} {n : Nat} (h : lenS x = some n) (ids : Nat → Nat) : (Builtin.lenOf (x.den ids)).run P w = .ok n w := by
  unfold lenS at h
  split at h
  · simp only [Option.some.injEq] at h; subst h; simp [SV.den, Builtin.lenOf]
  · simp only [Option.some.injEq] at h; subst h; simp [SV.den, Builtin.lenOf, size_mk]
  · simp at h

/-- Cells laid over the end of a row, and beyond. -/
theorem ext_dens (ids : Nat → Nat) {cs l : List SV} {tl : List Value} {o : Nat} (h1 : o ≤ cs.length) (h2 : cs.length ≤ o + l.length) (h3 : o + l.length ≤ cs.length + tl.length) :
    (((SV.dens ids l).zipIdx 0).foldl (fun (cs : Array Value) (x : Value × Nat) => cs.setIfInBounds (o + x.2) x.1) (SV.dens ids cs ++ tl).toArray) = (SV.dens ids (cs.take o ++ l) ++ tl.drop (o + l.length - cs.length)).toArray := by
  have := foldSet (SV.dens ids l) o 0 (SV.dens ids cs ++ tl).toArray (by simp [dens_eq]; omega)
  apply Array.ext_getElem?
  intro j
  rw [this.2 j]
  simp only [dens_eq, List.getElem?_toArray, List.length_map, Nat.add_zero, List.getElem?_append, List.map_append, List.length_append, List.length_take, List.map_take]
  have hm : min o cs.length = o := Nat.min_eq_left h1
  rw [hm]
  by_cases hj : o ≤ j ∧ j < o + l.length
  · rw [if_pos hj, if_pos (by omega), if_neg (by omega)]
  · rw [if_neg hj]
    by_cases hjo : j < o
    · rw [if_pos (by omega), if_pos (by omega), if_pos hjo, List.getElem?_take_of_lt hjo]
    · rw [if_neg (by omega), if_neg (by omega), List.getElem?_drop]
      congr 1
      omega
theorem putAt_sound {P : Program} {H : Hp} (hok : H.ok) {w : World} {F : List (Nat × Obj)} (hw : OwnL w (H.den ++ F)) {k o : Nat} {l : List SV} {H' : Hp} (h : putAt H k o l = some H') (h1 : SV.oks H.length H.ids l) (h2 : l.all SV.one = true) :
    ∃ w', (storeCells ⟨H.ids k, o, none⟩ (SV.dens H.ids l)).run P w = .ok () w' ∧ OwnL w' (H'.den ++ F) ∧ H'.ok ∧ Ext H H' ∧ H'.length = H.length ∧ w'.os = w.os ∧ w'.output = w.output := by
  have hone : ∀ v ∈ SV.dens H.ids l, cellB v = true := cells_toList_one (x := .nil) h1 h2
  have fin : ∀ {b : Nat} {so so' : SO} {ty : TypeId} {c c' : Array Value} {fz : Nat × Nat}, fz.2 ≤ o → nthO H k = some (b, some so) → so.den H.ids b = [(b, .cells c ty fz)] → so'.den H.ids b = [(b, .cells c' ty fz)] → o + l.length ≤ c.size →
      (((SV.dens H.ids l).zipIdx 0).foldl (fun (cs : Array Value) (x : Value × Nat) => cs.setIfInBounds (o + x.2) x.1) c) = c' → so'.ok H.length H.ids → H' = updL H k (b, some so') →
      ∃ w', (storeCells ⟨H.ids k, o, none⟩ (SV.dens H.ids l)).run P w = .ok () w' ∧ OwnL w' (H'.den ++ F) ∧ H'.ok ∧ Ext H H' ∧ H'.length = H.length ∧ w'.os = w.os ∧ w'.output = w.output := by
    intro b so so' ty c c' fz hfz hk ho ho' hle hc' hok' hH'
    obtain ⟨A, B, hAB, hAw⟩ := own_split hw hk
    rw [ho] at hAw
    have hb : w.heap[b]? = some (.cells c ty fz) := hAw.2 (b, .cells c ty fz) (by simp)
    obtain ⟨w', r1, r2⟩ := storeCells_run (P := P) hfz (SV.dens H.ids l) 0 w c hb (by simp [dens_eq]; omega) hone
    rw [hc'] at r2
    refine ⟨w', by rw [ids_of hk]; exact r1, ?_, ?_, ?_, ?_, r2.os, r2.out⟩
    · rw [hH', hAB so', ho']
      have := OwnL.upd' (A := A) (B := B ++ F) (by simpa using hAw) r2
      simpa using this
    · rw [hH']; exact ok_updL hok hk hok'
    · rw [hH']; exact ext_same (ids_updL hk) (length_updL _ _ _)
    · rw [hH']; exact length_updL _ _ _
  unfold putAt at h
  split at h
  · rename_i b so hk
    have hoo := hok k b _ hk
    split at h
    · split at h
      · rename_i cs' hcs'
        simp only [Option.some.injEq] at h; subst h
        have e1 := over_spec hcs'
        exact fin (so' := .cells cs' _) (fz := (0, 0)) (Nat.zero_le _) hk rfl rfl (by simp [dens_eq]; omega) (over_dens _ hcs') (over_oks hcs' hoo.1 hoo.2 h1 h2) rfl
      · simp at h
    · split at h
      · simp at h
      · rename_i hfb
        have hfb := Nat.le_of_ble_eq_true hfb
        split at h
        · rename_i cs' hcs'
          simp only [Option.some.injEq] at h; subst h
          have e1 := over_spec hcs'
          exact fin (so' := .row cs' _ _ _ _ _ _ _) (Nat.le_trans hoo.2.2 hfb) hk rfl rfl (by simp [dens_eq]; omega) (over_dens_tl _ hcs' _) ⟨over_oks hcs' hoo.1.1 hoo.1.2 h1 h2, hoo.2⟩ rfl
        · split at h
          · rename_i cs tl m mx es fz fb ty _ _ hb
            simp only [Bool.and_eq_true] at hb
            have b1 := Nat.le_of_ble_eq_true hb.1
            have b2 := Nat.le_of_ble_eq_true hb.2.1
            have b3 := Nat.le_of_ble_eq_true hb.2.2
            simp only [Option.some.injEq] at h; subst h
            have hm := hoo.2.1
            refine fin (so' := .row _ _ _ _ _ _ _ _) (Nat.le_trans hoo.2.2 hfb) hk rfl rfl (by simp [dens_eq]; omega) (ext_dens _ b1 b2 (by omega)) ⟨⟨(oks_iff _ _ _).2 fun x hx => ?_, List.all_eq_true.2 fun x hx => ?_⟩, by simp; omega, hoo.2.2⟩ rfl
            · rcases List.mem_append.1 hx with hx | hx
              · exact (oks_iff _ _ _).1 hoo.1.1 x (List.mem_of_mem_take hx)
              · exact (oks_iff _ _ _).1 h1 x hx
            · rcases List.mem_append.1 hx with hx | hx
              · exact List.all_eq_true.1 hoo.1.2 x (List.mem_of_mem_take hx)
              · exact List.all_eq_true.1 h2 x hx
          · simp at h
    · simp at h
  · simp at h
end Go.Sx

/- The symbolic executor 'Sx': copy, append. -/
namespace Go.Sx
open Go

def minN (a b : Nat) : Nat := match Nat.ble a b with | true => a | false => b
theorem minN_eq (a b : Nat) : minN a b = Nat.min a b := by
  unfold minN
  split
  · rename_i h; exact (Nat.min_eq_left (Nat.le_of_ble_eq_true h)).symm
  · rename_i h
    have : ¬ a ≤ b := fun h' => by rw [Nat.ble_eq_true_of_le h'] at h; simp at h
    exact (Nat.min_eq_right (by omega)).symm
def copyP (P : Program) (H : Hp) (t : TypeId) (d s : SV) : PR :=
  match P.underlying t with
  | some (.slice e) => match (P.underlying e).isSome with
    | false => .no
    | true => match d with
      | .sl k sz lo _ dl _ => match lenS s with
        | none => .no
        | some sl => match minN sl dl with
          | 0 => .det ⟨H, .lit .i64 0⟩ True
          | n + 1 => match Nat.beq sz (P.cellsOf e) with
            | false => .no
            | true => match firstS H sz (n + 1) s with
              | none => .no
              | some cs => match putAt H k (lo * sz) cs with
                | some H' => .det ⟨H', .lit .i64 (n + 1 : Nat)⟩ True
                | none => .no
      | _ => .no
  | _ => .no
theorem firstCells_zero {P : Program} {sz : Nat} {x : SV} {n : Nat} (h : lenS x = some n) (ids : Nat → Nat) (w : World) : (Builtin.firstCells sz 0 (x.den ids)).run P w = .ok #[] w := by
  unfold lenS at h
  split at h
  · rename_i k sz' lo a len cap
    cases a with
    | none => simp [SV.den, Builtin.firstCells]
    | some a =>
      have := run_loadCells_list (P := P) w a [] (fun j v hv => by simp at hv)
      simp only [SV.den, Builtin.firstCells, Nat.zero_mul]
      simpa using this
  · rename_i l
    have e : ((ByteArray.mk l.toArray).extract 0 0).data = #[] := by
      apply Array.ext'
      simp [ByteArray.extract, ByteArray.copySlice]
    simp [SV.den, Builtin.firstCells, e]
  · simp at h
theorem copy_sound {P : Program} {e : Env} (he : e.Ok) {w : World} {F : List (Nat × Obj)} (hw : OwnL w (e.H.den ++ F)) {o : Oper} {t : TypeId} {ts : List TypeId} {d s : SV} (hd : d.ok e.H.length e.H.ids) (hs : s.ok e.H.length e.H.ids)
    (hex : execOp e.a.eval o = (do pure (.value (← Builtin.copy_ (t :: ts).toArray o.type #[d.den e.H.ids, s.den e.H.ids])))) : PrOk P e.H F w e.a o (copyP P e.H t d s) := by
  unfold copyP
  split
  · rename_i el hu
    split
    · trivial
    rename_i hel
    obtain ⟨de, hde⟩ := Option.isSome_iff_exists.1 hel
    split
    · rename_i k sz lo a dl cap
      split
      · trivial
      rename_i sl hsl
      have hlen := lenS_sound (P := P) (w := w) hsl e.H.ids
      have hsz := sizeOf_run hde w
      split
      · rename_i hn
        rw [minN_eq] at hn
        intro _
        refine ⟨opok_value (r := ⟨_, .lit .i64 0⟩) (w' := w) ?_ hw he.hok (Ext.refl _) (by simp [SV.ok]) rfl rfl rfl, rfl⟩
        rw [hex]
        have hf := firstCells_zero (P := P) (sz := P.cellsOf el) hsl e.H.ids w
        cases a with
        | none => simp [Builtin.copy_, underlying_run hu, SV.den, hlen, hsz, hn, hf, goInt]
        | some a => simp [Builtin.copy_, underlying_run hu, SV.den, hlen, hsz, hn, hf, goInt, storeCells]
      · rename_i n hn
        rw [minN_eq] at hn
        split
        · trivial
        rename_i hsz'
        have hsz' := Nat.eq_of_beq_eq_true hsz'
        subst hsz'
        split
        · trivial
        rename_i cs hcs
        split
        · rename_i H' hput
          intro _
          have f1 := firstS_sound (P := P) he.hok hw hs hcs
          obtain ⟨w', p1, p2, p3, p4, p5, p6, p7⟩ := putAt_sound (P := P) he.hok hw hput f1.2.1 f1.2.2
          refine ⟨opok_value (r := ⟨_, .lit .i64 (n + 1 : Nat)⟩) ?_ p2 p3 p4 (by simp [SV.ok]) p6 p7 rfl, p5⟩
          have hdl : n + 1 ≤ dl := by have := Nat.min_le_right sl dl; rw [show min sl dl = Nat.min sl dl from rfl, hn] at this; exact this
          simp only [SV.ok] at hd
          have ha := (hd.2.resolve_left (by omega)).2
          rw [hex, ha]
          simp only [Builtin.copy_, SV.den, Sem.run_bind, List.getElem?_toArray, List.getElem?_cons_zero, List.getElem?_cons_succ, underlying_run hu, Result.andThen_ok, hlen, hsz, hn, f1.1, p1, Sem.run_pure, goInt]
        · trivial
    · trivial
  · trivial
end Go.Sx

/- The symbolic executor 'Sx': append. -/
namespace Go.Sx
open Go

def zerosT (P : Program) (xt : Option TypeId) : Bool :=
  match xt with
  | some u => match P.underlying u with
    | some (.int _) => true
    | some _ => false
    | none => true
  | none => false
def smallE (P : Program) (e : TypeId) (need : Nat) : Bool :=
  match P.info? e with
  | some i => Nat.ble i.bytes 1048576 && Nat.ble need 1048576
  | none => false
def zeroLen (P : Program) (e : TypeId) : Bool :=
  match zeroT P e with
  | some z => Nat.beq z.length (P.cellsOf e)
  | none => false
def growP (H : Hp) (e sz need : Nat) (cs : List SV) : PR :=
  .new (fun o => ⟨H ++ [(o.b, some (.row cs o.tl 0 o.x sz (0, 0) 0 e))], .sl H.length sz 0 (some ⟨o.b, 0, none⟩) need ⟨need, some o.x⟩⟩) []
theorem growBy_le (need : Nat) : ∀ (r c : Nat), Builtin.growBy need r c ≤ (c + 768) * 2 ^ r
  | 0, c => by simp [Builtin.growBy]
  | r + 1, c => by
    simp only [Builtin.growBy]
    split
    · have : 1 ≤ 2 ^ (r + 1) := Nat.one_le_two_pow
      have := Nat.le_mul_of_pos_right (c + 768) (show 0 < 2 ^ (r + 1) by omega)
      omega
    · have ih := growBy_le need r (c + (c + 768) / 4)
      refine Nat.le_trans ih ?_
      rw [Nat.pow_succ, Nat.mul_comm (2 ^ r) 2, ← Nat.mul_assoc]
      exact Nat.mul_le_mul_right _ (by omega)
theorem nextcap_le {need cap : Nat} (h : need ≤ 1048576) (hc : cap < need) : Builtin.nextslicecap need cap ≤ 33554432 := by
  unfold Builtin.nextslicecap
  split
  · omega
  · split
    · omega
    · refine Nat.le_trans (growBy_le need 4 cap) ?_
      have e : (2 : Nat) ^ 4 = 16 := rfl
      rw [e]
      omega
theorem size_zeroCells (z : Array Value) (n : Nat) : (Builtin.zeroCells z n).size = n * z.size := by simp [Builtin.zeroCells]
/-- A new array: what append does where there is no room. -/
theorem append_grow {P : Program} {t el : TypeId} (hu : P.underlying t = some (.slice el)) {xt : Option TypeId} {ts : List TypeId} (hxt : ts[0]? = xt) (hz : zerosT P xt = false) {need : Nat} (hs : smallE P el need = true) {d : TypeDesc} (hd : P.underlying el = some d)
    {z : Value} (hzv : ∀ w : World, (zeroValue el).run P w = .ok z w) {ad : Option Addr} {len cap n : Nat} {x : Value} {old new : Array Value} {w : World} (hx : (Builtin.lenOf x).run P w = .ok n w) (hneed : need = len + n) (hcap : cap < need)
    (hold : ∀ w' : World, w'.heap = w.heap → (Builtin.firstCells (P.cellsOf el) len (.slice ad len cap)).run P w' = .ok old w') (hnew : ∀ w' : World, w'.heap = w.heap → (Builtin.firstCells (P.cellsOf el) n x).run P w' = .ok new w') (ty : TypeId) :
    ∃ k, (Builtin.append_ (t :: ts).toArray ty #[.slice ad len cap, x]).run P w = .ok (.slice (some ⟨w.heap.size, 0, none⟩) need (need + k)) (({ w with drawn := w.drawn + 1 } : World).alloc (.cells (old ++ new ++ Builtin.zeroCells z.cells k) el)) := by
  unfold smallE at hs
  split at hs
  · rename_i info hi
    simp only [Bool.and_eq_true] at hs
    have b1 := Nat.le_of_ble_eq_true hs.1
    have b2 := Nat.le_of_ble_eq_true hs.2
    have hinfo : ∀ w : World, (typeInfo el).run P w = .ok info w := fun w => by simp [typeInfo, hi]
    have hsz := fun w => sizeOf_run hd w
    have hnc : ¬ need ≤ cap := by omega
    have hcapb : ¬ Builtin.nextslicecap need cap * info.bytes > 2 ^ 48 := by
      have h1 := nextcap_le b2 hcap
      have := Nat.mul_le_mul h1 b1
      simp only [Nat.reduceMul] at this
      omega
    have hmax : ¬ ((need : Int) > IntKind.i64.max ∧ (false = true ∨ info.bytes = 0)) := by
      rintro ⟨h, _⟩
      simp [IntKind.max, IntKind.signed, IntKind.bits] at h
      omega
    refine ⟨w.tape w.drawn (.appendCap need cap el) % (2 ^ 63 - need), ?_⟩
    have hzer : xt = none ∨ ∃ u d', xt = some u ∧ P.underlying u = some d' ∧ ∀ k, d' ≠ .int k := by
      unfold zerosT at hz
      cases xt with
      | none => exact .inl rfl
      | some u =>
        simp only at hz
        split at hz
        · simp at hz
        · rename_i d' hni hu'; exact .inr ⟨u, d', rfl, hu', fun k e => hni k e⟩
        · simp at hz
    have hdrew : ({ w with drawn := w.drawn + 1 } : World).heap = w.heap := rfl
    have hn1 : ∀ w' : World, w'.heap = w.heap → (Builtin.firstCells (P.cellsOf el) n x).run P w' = .ok new w' := hnew
    have hdrn : ∀ w0 : World, (choose (.appendCap need cap el)).run P w0 = .ok (need + w0.tape w0.drawn (.appendCap need cap el) % (2 ^ 63 - need)) ({ w0 with drawn := w0.drawn + 1 } : World) := by
      intro w0
      simp [run_choose, Question.forced, Question.cut]
    have hrow : ∀ (cs : Array Value) (w0 : World), (newRow el cs).run P w0 = .ok ⟨w0.heap.size, 0, none⟩ (w0.alloc (.cells cs el)) := by
      intro cs w0; simp [newRow, World.alloc_eq]
    subst hneed
    have hmax' : ¬ (((len + n : Nat) : Int) > IntKind.i64.max ∧ (False ∨ info.bytes = 0)) := fun h => hmax ⟨h.1, h.2.imp (fun h => h.elim) id⟩
    unfold Builtin.append_
    rcases hzer with rfl | ⟨u, d', rfl, hu', hni⟩
    · simp only [List.getElem?_toArray, List.getElem?_cons_zero, List.getElem?_cons_succ, hxt, Sem.run_bind, underlying_run hu, Result.andThen_ok, hsz, Sem.run_pure, Bool.false_eq_true, if_false, hx, if_neg hnc, hinfo, if_neg hmax', if_neg hcapb, hdrn, run_askRoom, hold _ hdrew, hnew _ hdrew, hzv, Bool.not_false, if_true, Nat.add_sub_cancel_left, hrow]
    · have hm : (match d' with | .int _ => true | _ => false) = false := by cases d' <;> first | (exact absurd rfl (hni _)) | rfl
      simp only [List.getElem?_toArray, List.getElem?_cons_zero, List.getElem?_cons_succ, hxt, Sem.run_bind, underlying_run hu, underlying_run hu', hm, Result.andThen_ok, hsz, Sem.run_pure, Bool.false_eq_true, if_false, hx, if_neg hnc, hinfo, if_neg hmax', if_neg hcapb, hdrn, run_askRoom, hold _ hdrew, hnew _ hdrew, hzv, Bool.not_false, if_true, Nat.add_sub_cancel_left, hrow]
  · simp at hs

/-- Cells are stored behind an address, if there is one. -/
def StoresTo (P : Program) (a : Option Addr) (off : Nat) (vs : List Value) (w w' : World) : Prop :=
  match a with
  | some a => (storeCells (a.add off) vs).run P w = .ok () w'
  | none => w' = w
theorem append_inplace {P : Program} {t el : TypeId} (hu : P.underlying t = some (.slice el)) {xt : Option TypeId} {ts : List TypeId} (hxt : ts[0]? = xt) (hz : zerosT P xt = false) {d : TypeDesc} (hd : P.underlying el = some d)
    {ad : Option Addr} {len cap n : Nat} {x : Value} {vs : Array Value} {w w' : World} (hx : (Builtin.lenOf x).run P w = .ok n w) (hle : len + n ≤ cap) (hvs : (Builtin.firstCells (P.cellsOf el) n x).run P w = .ok vs w)
    (hst : StoresTo P ad (len * P.cellsOf el) vs.toList w w') (ty : TypeId) :
    (Builtin.append_ (t :: ts).toArray ty #[.slice ad len cap, x]).run P w = .ok (.slice ad (len + n) cap) w' := by
  have hsz := fun w => sizeOf_run hd w
  have hzer : xt = none ∨ ∃ u d', xt = some u ∧ P.underlying u = some d' ∧ ∀ k, d' ≠ .int k := by
    unfold zerosT at hz
    cases xt with
    | none => exact .inl rfl
    | some u =>
      simp only at hz
      split at hz
      · simp at hz
      · rename_i d' hni hu'; exact .inr ⟨u, d', rfl, hu', fun k e => hni k e⟩
      · simp at hz
  unfold Builtin.append_
  rcases hzer with rfl | ⟨u, d', rfl, hu', hni⟩
  · simp only [List.getElem?_toArray, List.getElem?_cons_zero, List.getElem?_cons_succ, hxt, Sem.run_bind, underlying_run hu, Result.andThen_ok, hsz, Sem.run_pure, Bool.false_eq_true, if_false, hx, if_pos hle, Bool.not_false, if_true, hvs]
    cases ad with
    | none => simp only [StoresTo] at hst; subst hst; rfl
    | some a => simp only [StoresTo] at hst; simp only [Sem.run_bind, hst, Result.andThen_ok, Sem.run_pure]
  · have hm : (match d' with | .int _ => true | _ => false) = false := by cases d' <;> first | (exact absurd rfl (hni _)) | rfl
    simp only [List.getElem?_toArray, List.getElem?_cons_zero, List.getElem?_cons_succ, hxt, Sem.run_bind, underlying_run hu, underlying_run hu', hm, Result.andThen_ok, hsz, Sem.run_pure, Bool.false_eq_true, if_false, hx, if_pos hle, Bool.not_false, if_true, hvs]
    cases ad with
    | none => simp only [StoresTo] at hst; subst hst; rfl
    | some a => simp only [StoresTo] at hst; simp only [Sem.run_bind, hst, Result.andThen_ok, Sem.run_pure]
/-- append(s, x..): in place where there is room for sure; a new array where there is none for sure; else the old array is given up. -/
def appendP (P : Program) (H : Hp) (t : TypeId) (xt : Option TypeId) (s x : SV) : PR :=
  match P.underlying t with
  | some (.slice e) => match (P.underlying e).isSome && !zerosT P xt with
    | false => .no
    | true => match s with
      | .sl k sz lo a len cap => match lenS x with
        | none => .no
        | some n => match firstS H (P.cellsOf e) n x with
          | none => .no
          | some new => match Nat.ble (len + n) cap.n with
            | true => match n with
              | 0 => .det ⟨H, .sl k sz lo a len cap⟩ True
              | n + 1 => match Nat.beq sz (P.cellsOf e) with
                | false => .no
                | true => match putAt H k ((lo + len) * sz) new with
                  | some H' => .det ⟨H', .sl k sz lo a (len + (n + 1)) cap⟩ True
                  | none => .no
            | false => match firstS H (P.cellsOf e) len (.sl k sz lo a len cap) with
              | none => .no
              | some old => match smallE P e (len + n) && zeroLen P e with
                | false => .no
                | true => match cap.e with
                  | none => growP H e (P.cellsOf e) (len + n) (old ++ new)
                  | some _ => .no
      | _ => .no
  | _ => .no
theorem capV_ge (c : Cap) : c.n ≤ c.v := by unfold Cap.v; split <;> omega
set_option maxHeartbeats 1000000 in
theorem append_sound {P : Program} {e : Env} (he : e.Ok) {w : World} {F : List (Nat × Obj)} (hw : OwnL w (e.H.den ++ F)) {o : Oper} {t : TypeId} {ts : List TypeId} {s x : SV} (hs : s.ok e.H.length e.H.ids) (hx : x.ok e.H.length e.H.ids)
    (hex : execOp e.a.eval o = (do pure (.value (← Builtin.append_ (t :: ts).toArray o.type #[s.den e.H.ids, x.den e.H.ids])))) : PrOk P e.H F w e.a o (appendP P e.H t ts[0]? s x) := by
  unfold appendP
  split
  · rename_i el hu
    split
    · trivial
    rename_i hel
    simp only [Bool.and_eq_true, Bool.not_eq_true'] at hel
    obtain ⟨hel, hz⟩ := hel
    obtain ⟨d, hd⟩ := Option.isSome_iff_exists.1 hel
    split
    · rename_i k sz lo a len cap
      split
      · trivial
      rename_i n hn
      split
      · trivial
      rename_i new hnew
      have hlen := lenS_sound (P := P) (w := w) hn e.H.ids
      have fnew := firstS_sound (P := P) he.hok hw hx hnew
      have inplace : ∀ {vs : Array Value} {w' : World}, len + n ≤ cap.v → (Builtin.firstCells (P.cellsOf el) n (x.den e.H.ids)).run P w = .ok vs w → StoresTo P a (len * P.cellsOf el) vs.toList w w' →
          (execOp e.a.eval o).run P w = .ok (.value (.slice a (len + n) cap.v)) w' := by
        intro vs w' hle hvs hst
        have := append_inplace hu rfl hz hd hlen hle hvs hst o.type
        rw [hex, Sem.run_bind]
        simp only [SV.den]
        rw [this]
        rfl
      simp only [SV.ok] at hs
      have hcn := capV_ge cap
      split
      · rename_i hle
        have hle := Nat.le_of_ble_eq_true hle
        split
        · intro _
          refine ⟨opok_value (r := ⟨_, _⟩) (w' := w) ?_ hw he.hok (Ext.refl _) (by simp only [SV.ok]; exact hs) rfl rfl rfl, rfl⟩
          have := inplace (vs := #[]) (w' := w) (by omega) (firstCells_zero hn e.H.ids w) (by cases a <;> simp [StoresTo, storeCells])
          simpa [SV.den] using this
        · rename_i n _
          split
          · trivial
          rename_i hb
          have hb := Nat.eq_of_beq_eq_true hb
          subst hb
          split
          · rename_i H' hput
            intro _
            obtain ⟨w', p1, p2, p3, p4, p5, p6, p7⟩ := putAt_sound (P := P) he.hok hw hput fnew.2.1 fnew.2.2
            have ha := hs.2.resolve_left (by omega)
            have hext := p4.sv (x := .sl k (P.cellsOf el) lo a (len + (n + 1)) cap) (by simp only [SV.ok]; exact ⟨by omega, hs.2⟩)
            refine ⟨opok_value (r := ⟨_, _⟩) ?_ p2 p3 p4 hext.2 p6 p7 rfl, p5⟩
            rw [hext.1]
            simp only [SV.den]
            refine inplace (by omega) fnew.1 ?_
            rw [ha.2]
            simp only [StoresTo, addr_add, ← Nat.add_mul]
            exact p1
          · trivial
      · rename_i hle
        have hle : cap.n < len + n := by
          refine Nat.lt_of_not_le fun h => ?_
          rw [Nat.ble_eq_true_of_le h] at hle; simp at hle
        split
        · trivial
        rename_i old hold
        split
        · trivial
        rename_i hsm
        simp only [Bool.and_eq_true] at hsm
        split
        · rename_i hce
          have hcv : cap.v = cap.n := by simp [Cap.v, hce]
          unfold zeroLen at hsm
          split at hsm
          · rename_i z hzt
            have hzl := Nat.eq_of_beq_eq_true hsm.2
            obtain ⟨zv, z1, z2, z3, z4⟩ := zeroT_sound hzt e.H.length e.H.ids
            have fold := firstS_sound (P := P) he.hok hw (x := .sl k sz lo a len cap) (by simp only [SV.ok]; exact hs) hold
            have heap : ∀ w' : World, w'.heap = w.heap → OwnL w' (e.H.den ++ F) := fun w' h => hw.heap h
            obtain ⟨kx, hrun⟩ := append_grow (ad := a) (cap := cap.v) hu rfl hz hsm.1 hd z1 hlen rfl (by rw [hcv]; exact hle) (fun w' h => (firstS_sound (P := P) he.hok (heap w' h) (x := .sl k sz lo a len cap) (by simp only [SV.ok]; exact hs) hold).1) (fun w' h => (firstS_sound (P := P) he.hok (heap w' h) hx hnew).1) o.type
            refine ⟨fun _ => ?_, fun y => by simp⟩
            let tl := (Builtin.zeroCells zv.cells kx).toList
            have htl : tl.length = kx * P.cellsOf el := by
              simp only [tl, Array.length_toList, size_zeroCells, z2]
              simp [dens_eq, hzl]
            let oc : Orc := ⟨w.heap.size, kx, tl, (0, 0)⟩
            let so : SO := .row (old ++ new) tl 0 kx (P.cellsOf el) (0, 0) 0 el
            have hsok : so.ok (e.H.length + 1) (Hp.ids (e.H ++ [(w.heap.size, some so)])) := by
              have hb : so.ok e.H.length e.H.ids := by
                refine ⟨⟨(oks_iff _ _ _).2 fun x hx => ?_, List.all_eq_true.2 fun x hx => ?_⟩, by rw [htl]; omega, Nat.le_refl _⟩
                · rcases List.mem_append.1 hx with hx | hx
                  · exact (oks_iff _ _ _).1 fold.2.1 x hx
                  · exact (oks_iff _ _ _).1 fnew.2.1 x hx
                · rcases List.mem_append.1 hx with hx | hx
                  · exact List.all_eq_true.1 fold.2.2 x hx
                  · exact List.all_eq_true.1 fnew.2.2 x hx
              exact (SO.same (fun j hj => ids_append (w.heap.size, some so) hj) (Nat.le_succ _) w.heap.size hb).2
            have hden : Hp.den (e.H ++ [(w.heap.size, some so)]) = e.H.den ++ [(w.heap.size, .cells (SV.dens e.H.ids old ++ SV.dens e.H.ids new ++ tl).toArray el)] := by
              rw [den_push he.hok]
              have hb : so.ok e.H.length e.H.ids := by
                refine ⟨⟨(oks_iff _ _ _).2 fun x hx => ?_, List.all_eq_true.2 fun x hx => ?_⟩, by rw [htl]; omega, Nat.le_refl _⟩
                · rcases List.mem_append.1 hx with hx | hx
                  · exact (oks_iff _ _ _).1 fold.2.1 x hx
                  · exact (oks_iff _ _ _).1 fnew.2.1 x hx
                · rcases List.mem_append.1 hx with hx | hx
                  · exact List.all_eq_true.1 fold.2.2 x hx
                  · exact List.all_eq_true.1 fnew.2.2 x hx
              rw [(SO.same (fun j hj => ids_append (w.heap.size, some so) hj) (Nat.le_succ _) w.heap.size hb).1]
              simp [so, SO.den, dens_eq]
            refine opok_value (w := w) (r := ⟨e.H ++ [(w.heap.size, some so)], .sl e.H.length (P.cellsOf el) 0 (some ⟨w.heap.size, 0, none⟩) (len + n) ⟨len + n, some kx⟩⟩) (w' := World.alloc { w with drawn := w.drawn + 1 } (.cells (SV.dens e.H.ids old ++ SV.dens e.H.ids new ++ tl).toArray el)) ?_ ?_ (ok_push he.hok _ _ hsok) (ext_push _) ?_ rfl rfl ?_
            · rw [hex]
              have e1 : (SV.dens e.H.ids old).toArray ++ (SV.dens e.H.ids new).toArray ++ Builtin.zeroCells zv.cells kx = (SV.dens e.H.ids old ++ SV.dens e.H.ids new ++ tl).toArray := by
                apply Array.ext'
                simp [tl]
              rw [e1] at hrun
              rw [Sem.run_bind]
              have e2 : (SV.sl k sz lo a len cap).den e.H.ids = .slice a len cap.v := by simp [SV.den]
              rw [e2, hrun, Result.andThen_ok, Sem.run_pure]
              have e3 : (⟨len + n, some kx⟩ : Cap).v = len + n + kx := by simp only [Cap.v]; omega
              simp only [SV.den, e3]
            · rw [hden]
              have h0 : OwnL ({ w with drawn := w.drawn + 1 } : World) (e.H.den ++ F) := hw.heap rfl
              have := h0.alloc (.cells (SV.dens e.H.ids old ++ SV.dens e.H.ids new ++ tl).toArray el)
              exact this.perm (by simpa using (List.perm_middle (a := (w.heap.size, Obj.cells (SV.dens e.H.ids old ++ SV.dens e.H.ids new ++ tl).toArray el)) (l₁ := e.H.den) (l₂ := F)).symm)
            · simp only [SV.ok, Cap.v, List.length_append, List.length_cons, List.length_nil]
              exact ⟨by omega, .inr ⟨by omega, by rw [ids_new]; simp⟩⟩
            · exact ⟨oc, rfl⟩
          · simp at hsm
        · trivial
    · trivial
  · trivial
end Go.Sx

/- The symbolic executor 'Sx': make of a slice; texts out of bytes. -/
namespace Go.Sx
open Go

def makeSliceP (P : Program) (H : Hp) (t : TypeId) (l c : SV) : PR :=
  match P.underlying t with
  | some (.slice e) => match (P.underlying e).isSome && zeroLen P e with
    | false => .no
    | true => match isInt l with
      | some (_, _, .ofNat l') => match isInt c with
        | some (_, _, .ofNat c') => match Nat.ble l' c' && smallE P e c' with
          | true => match zeroT P e with
            | some z => .new (fun o => ⟨H ++ [(o.b, some (.cells (List.replicate c' z).flatten e))], .sl H.length (P.cellsOf e) 0 (some ⟨o.b, 0, none⟩) l' ⟨c', none⟩⟩) []
            | none => .no
          | false => .no
        | _ => .no
      | _ => .no
  | _ => .no
theorem wrap_small {n : Nat} (h : n ≤ 1048576) : IntKind.i64.wrap (n : Int) = n := by
  simp only [IntKind.wrap]
  simp [IntKind.bits, IntKind.signed, IntKind.max]
  omega

/-- n zero elements, as cells. -/
theorem zeros_arr (ids : Nat → Nat) {z : List SV} {zero : Array Value} {sz n : Nat} (hzl : z.length = sz) (hz : n * sz ≠ 0 → zero = (SV.dens ids z).toArray) :
    (Array.range (n * sz)).map (zero[· % zero.size]!) = (SV.dens ids (List.replicate n z).flatten).toArray := by
  apply Array.ext_getElem?
  intro j
  simp only [dens_eq, List.getElem?_toArray, List.getElem?_map, Array.getElem?_map]
  by_cases hj : j < n * sz
  · have h2 := hz (by omega)
    have hr : (Array.range (n * sz))[j]? = some j := by rw [Array.getElem?_eq_getElem (by simp; exact hj)]; simp
    rw [← hzl] at hj
    rw [flat_get z n j hj]
    have hzp : 0 < z.length := by rcases Nat.eq_zero_or_pos z.length with h0 | h0; (rw [h0] at hj; simp at hj); exact h0
    have hmod : j % z.length < z.length := Nat.mod_lt _ hzp
    have hsz : zero.size = z.length := by rw [h2]; simp [dens_eq]
    rw [hr]
    simp only [Option.map_some, hsz]
    rw [getElem!_pos _ _ (by rw [hsz]; exact hmod)]
    simp [h2, dens_eq, hmod]
  · have hr : (Array.range (n * sz))[j]? = none := by rw [Array.getElem?_eq_none]; simp; omega
    rw [hr, List.getElem?_eq_none (by rw [flat_len, hzl]; omega)]
    rfl
theorem makeSlice_sound {P : Program} {e : Env} (he : e.Ok) {w : World} {F : List (Nat × Obj)} (hw : OwnL w (e.H.den ++ F)) {o : Oper} {t : TypeId} {l c : SV}
    (hex : execOp e.a.eval o = (do pure (.value (← Instr.makeSlice t (l.den e.H.ids) (c.den e.H.ids))))) : PrOk P e.H F w e.a o (makeSliceP P e.H t l c) := by
  unfold makeSliceP
  split
  · rename_i el hu
    split
    · trivial
    rename_i hel
    simp only [Bool.and_eq_true] at hel
    obtain ⟨d, hd⟩ := Option.isSome_iff_exists.1 hel.1
    split
    · rename_i li lk l' hl
      split
      · rename_i ci ck c' hc
        split
        · rename_i hsm
          simp only [Bool.and_eq_true] at hsm
          have hlc := Nat.le_of_ble_eq_true hsm.1
          split
          · rename_i z hzt
            have hzl : z.length = P.cellsOf el := by
              have := hel.2
              unfold zeroLen at this
              rw [hzt] at this
              exact Nat.eq_of_beq_eq_true this
            obtain ⟨zv, z1, z2, z3, z4⟩ := zeroT_sound hzt e.H.length e.H.ids
            have hs := hsm.2
            unfold smallE at hs
            split at hs
            · rename_i info hi
              simp only [Bool.and_eq_true] at hs
              have b1 := Nat.le_of_ble_eq_true hs.1
              have b2 := Nat.le_of_ble_eq_true hs.2
              refine ⟨fun _ => ?_, fun y => by simp⟩
              have hmem : ∀ x ∈ (List.replicate c' z).flatten, x ∈ z := by
                intro x hx
                obtain ⟨q, hq, hxq⟩ := List.mem_flatten.1 hx
                rw [(List.mem_replicate.1 hq).2] at hxq; exact hxq
              let so : SO := .cells (List.replicate c' z).flatten el
              have hb : so.ok e.H.length e.H.ids := ⟨(oks_iff _ _ _).2 fun x hx => (oks_iff _ _ _).1 z3 x (hmem x hx), List.all_eq_true.2 fun x hx => List.all_eq_true.1 z4 x (hmem x hx)⟩
              have hso := SO.same (fun j hj => ids_append (w.heap.size, some so) hj) (Nat.le_succ e.H.length) w.heap.size hb
              have hden : Hp.den (e.H ++ [(w.heap.size, some so)]) = e.H.den ++ [(w.heap.size, .cells (SV.dens e.H.ids (List.replicate c' z).flatten).toArray el)] := by
                rw [den_push he.hok, hso.1]; simp [so, SO.den]
              refine opok_value (w := w) (r := ⟨e.H ++ [(w.heap.size, some so)], .sl e.H.length (P.cellsOf el) 0 (some ⟨w.heap.size, 0, none⟩) l' ⟨c', none⟩⟩) (w' := w.alloc (.cells (SV.dens e.H.ids (List.replicate c' z).flatten).toArray el)) ?_ ?_ (ok_push he.hok _ _ hso.2) (ext_push _) ?_ rfl rfl ?_
              · rw [hex, isInt_den hl, isInt_den hc]
                have hinfo : (typeInfo el).run P w = .ok info w := by simp [typeInfo, hi]
                have h1 : IntKind.i64.wrap (Int.ofNat l') = (l' : Int) := wrap_small (by omega)
                have h2 : IntKind.i64.wrap (Int.ofNat c') = (c' : Int) := wrap_small b2
                have hbig : ¬ ((info.bytes : Int) * (c' : Int) > 2 ^ 48) := by
                  have := Nat.mul_le_mul b1 b2
                  simp only [Nat.reduceMul] at this
                  have h3 : ((info.bytes * c' : Nat) : Int) ≤ ((1099511627776 : Nat) : Int) := Int.ofNat_le.2 this
                  rw [Int.natCast_mul] at h3
                  omega
                have harr : ∀ zero : Array Value, (c' * P.cellsOf el ≠ 0 → zero = (SV.dens e.H.ids z).toArray) → (Array.range (c' * P.cellsOf el)).map (zero[· % zero.size]!) = (SV.dens e.H.ids (List.replicate c' z).flatten).toArray := fun zero h => zeros_arr e.H.ids hzl h
                have hbig' : ¬ ((2 : Int) ^ 48 < (info.bytes : Int) * (c' : Int)) := hbig
                have hneg : ¬ ((c' : Int) < 0) := by omega
                have hneg' : ¬ ((l' : Int) < 0) := by omega
                have hlc' : ¬ ((l' : Int) > (c' : Int)) := by omega
                simp only [Instr.makeSlice, Sem.run_bind, underlying_run hu, Result.andThen_ok, show ∀ k n, asInt (.int k n) = pure n from fun _ _ => rfl, Sem.run_pure, hinfo, h1, h2, decide_eq_false hneg, decide_eq_false hbig, decide_eq_false hneg', decide_eq_false hlc', Bool.or_self, Bool.false_eq_true, if_false, run_askRoom, sizeOf_run hd, Int.toNat_natCast]
                by_cases h0 : c' * P.cellsOf el = 0
                · simp only [h0, if_true, Sem.run_bind, Sem.run_pure, Result.andThen_ok]
                  have := harr #[] (fun h => absurd h0 h)
                  rw [h0] at this
                  simp only [this, newRow, run_newObj, Sem.run_bind, Sem.run_pure, Result.andThen_ok, SV.den, Cap.v, World.alloc_eq]
                · simp only [h0, if_false, Sem.run_bind, Sem.run_pure, Result.andThen_ok, z1, harr zv.cells (fun _ => z2), newRow, run_newObj, SV.den, Cap.v, World.alloc_eq]
              · rw [hden]
                have := hw.alloc (.cells (SV.dens e.H.ids (List.replicate c' z).flatten).toArray el)
                exact this.perm (by simpa using (List.perm_middle (a := (w.heap.size, Obj.cells (SV.dens e.H.ids (List.replicate c' z).flatten).toArray el)) (l₁ := e.H.den) (l₂ := F)).symm)
              · simp only [SV.ok, Cap.v, List.length_append, List.length_cons, List.length_nil]
                exact ⟨by omega, .inr ⟨by omega, by rw [ids_new]; simp⟩⟩
              · exact ⟨⟨w.heap.size, 0, [], (0, 0)⟩, rfl⟩
            · simp at hs
          · trivial
        · trivial
      · trivial
    · trivial
  · trivial
end Go.Sx

/- The symbolic executor 'Sx': a text out of bytes. -/
namespace Go.Sx
open Go

def bytesOf : List SV → Option (List UInt8)
  | [] => some []
  | x :: r => match isInt x with
    | some (_, .u8, a) => match bytesOf r with
      | some l => some (UInt8.ofNat a.toNat :: l)
      | none => none
    | _ => none
def toStrP (P : Program) (H : Hp) (s d : TypeId) (x : SV) : PR :=
  match P.underlying s with
  | some (.slice e) => match P.underlying e with
    | some (.int .u8) => match P.underlying d with
      | some .string => match x with
        | .sl k sz lo a n cap => match firstS H 1 n (.sl k sz lo a n cap) with
          | some cs => match bytesOf cs with
            | some l => .det ⟨H, .str l⟩ True
            | none => .no
          | none => .no
        | _ => .no
      | _ => .no
    | _ => .no
  | _ => .no
theorem bytes_loop {P : Program} {ids : Nat → Nat} {w : World} : ∀ {cs : List SV} {l : List UInt8} (acc : ByteArray), bytesOf cs = some l →
    (forIn (SV.dens ids cs) acc (fun c s => match c with
      | .int .u8 n => pure (ForInStep.yield (s.push (UInt8.ofNat n.toNat)))
      | _ => do
        stuck "bytesToString: byte expected"
        pure (ForInStep.yield s) : Value → ByteArray → Sem (ForInStep ByteArray))).run P w = .ok (l.foldl (fun s b => s.push b) acc) w
  | [], l, acc, h => by
    simp only [bytesOf, Option.some.injEq] at h; subst h
    simp [SV.dens]
  | x :: r, l, acc, h => by
    simp only [bytesOf] at h
    split at h
    · rename_i li a hi
      split at h
      · rename_i l' hl'
        simp only [Option.some.injEq] at h; subst h
        have ih := bytes_loop (P := P) (ids := ids) (w := w) (acc.push (UInt8.ofNat a.toNat)) hl'
        simp only [SV.dens, isInt_den hi, List.forIn_cons, Sem.run_bind, Sem.run_pure, Result.andThen_ok, List.foldl_cons]
        exact ih
      · simp at h
    · simp at h
theorem push_bytes : ∀ (l : List UInt8) (acc : ByteArray), l.foldl (fun s b => s.push b) acc = ⟨acc.data ++ l.toArray⟩
  | [], acc => by cases acc; simp
  | b :: r, acc => by
    rw [List.foldl_cons, push_bytes r]
    congr 1
    apply Array.ext'
    simp [ByteArray.push]
theorem toStr_sound {P : Program} {e : Env} (he : e.Ok) {w : World} {F : List (Nat × Obj)} (hw : OwnL w (e.H.den ++ F)) {o : Oper} {s d : TypeId} {x : SV} (hx : x.ok e.H.length e.H.ids)
    (hex : execOp e.a.eval o = (do pure (.value (← convert s d (x.den e.H.ids))))) : PrOk P e.H F w e.a o (toStrP P e.H s d x) := by
  unfold toStrP
  split
  · rename_i el hs
    split
    · rename_i hel
      split
      · rename_i hd
        split
        · rename_i k sz lo a n cap
          split
          · rename_i cs hcs
            split
            · rename_i l hl
              intro _
              refine ⟨opok_value (w := w) (r := ⟨_, .str l⟩) (w' := w) ?_ hw he.hok (Ext.refl _) (by simp [SV.ok]) rfl rfl rfl, rfl⟩
              have f := (firstS_sound (P := P) he.hok hw hx hcs).1
              have hloop := bytes_loop (P := P) (ids := e.H.ids) (w := w) ByteArray.empty hl
              rw [push_bytes] at hloop
              rw [hex]
              cases a with
              | none =>
                have hcs0 : cs = [] := by
                  simp only [SV.den, Builtin.firstCells, Sem.run_pure, Result.ok.injEq, and_true] at f
                  have := congrArg Array.size f
                  simp [dens_eq] at this
                  exact List.eq_nil_of_length_eq_zero this.symm
                subst hcs0
                simp only [bytesOf, Option.some.injEq] at hl; subst hl
                simp only [Sem.run_bind, convert, underlying_run hs, underlying_run hd, underlying_run hel, Result.andThen_ok, SV.den, Conv.bytesToString, Sem.run_pure]
                rfl
              | some a =>
                simp only [SV.den, Builtin.firstCells, Nat.mul_one] at f
                simp only [Sem.run_bind, convert, underlying_run hs, underlying_run hd, underlying_run hel, Result.andThen_ok, SV.den, Conv.bytesToString, Sem.run_pure, f]
                rw [← Array.forIn_toList]
                refine Eq.trans (congrArg (fun r => ((Result.andThen r fun a w' => Result.ok (Value.string a) w').andThen fun a w' => Result.ok (Next.value a) w')) hloop) ?_
                simp only [Result.andThen_ok]
                congr 3
                simp
            · trivial
          · trivial
        · trivial
      · trivial
    · trivial
  · trivial
end Go.Sx

/- The symbolic executor 'Sx': append where it isn't known whether there is room: the old array is given up. -/
namespace Go.Sx
open Go

def openP (P : Program) (H : Hp) (t : TypeId) (xt : Option TypeId) (s x : SV) : PR :=
  match P.underlying t with
  | some (.slice e) => match (P.underlying e).isSome && !zerosT P xt with
    | false => .no
    | true => match s with
      | .sl k sz lo a len ⟨n0, some y⟩ => match lenS x with
        | none => .no
        | some n => match Nat.ble (len + n) n0 with
          | true => .no
          | false => match firstS H (P.cellsOf e) n x with
            | none => .no
            | some new => match firstS H (P.cellsOf e) len (.sl k sz lo a len ⟨n0, some y⟩) with
              | none => .no
              | some old => match smallE P e (len + n) && zeroLen P e with
                | false => .no
                | true => match Nat.beq lo 0 && Nat.beq sz (P.cellsOf e) with
                  | false => .no
                  | true => match nthO H k with
                    | some (b, some (.row cs tl m mx es fz fb ty)) => match Nat.ble fb (len * sz) && (Nat.ble (n0 * sz) (cs.length + m) && (Nat.beq es sz && (Nat.beq ty e && Nat.beq new.length (n * sz)))) with
                      | true => .new (fun o => ⟨updL H k (b, none) ++ [(o.b, some (.row (old ++ new) o.tl 0 o.x sz o.fz fb e))], .sl H.length sz 0 (some ⟨o.b, 0, none⟩) (len + n) ⟨len + n, some o.x⟩⟩) [(.int .i64 y, .int .i64 mx)]
                      | false => .no
                    | _ => .no
      | _ => .no
  | _ => .no
theorem foldSet_arr (vs : List Value) (o : Nat) (arr : List Value) (h : o + vs.length ≤ arr.length) :
    ((vs.zipIdx 0).foldl (fun (cs : Array Value) (x : Value × Nat) => cs.setIfInBounds (o + x.2) x.1) arr.toArray) = (arr.take o ++ vs ++ arr.drop (o + vs.length)).toArray := by
  have := foldSet vs o 0 arr.toArray (by simp; omega)
  apply Array.ext_getElem?
  intro j
  rw [this.2 j]
  simp only [List.getElem?_toArray, Nat.add_zero, List.getElem?_append, List.length_append, List.length_take]
  have hm : min o arr.length = o := by omega
  rw [hm]
  by_cases hj : o ≤ j ∧ j < o + vs.length
  · rw [if_pos hj, if_pos (by omega), if_neg (by omega)]
  · rw [if_neg hj]
    by_cases hjo : j < o
    · rw [if_pos (by omega), if_pos hjo, List.getElem?_take_of_lt hjo]
    · rw [if_neg (by omega), List.getElem?_drop]
      congr 1
      omega
/-- An object is given up. -/
theorem den_none {H : Hp} {k b : Nat} {o : SO} (hk : nthO H k = some (b, some o)) : ∃ A B, H.den = A ++ o.den H.ids b ++ B ∧ Hp.den (updL H k (b, none)) = A ++ B := by
  obtain ⟨A, B, hAB⟩ := denL_split H.ids hk
  refine ⟨A, B, (hAB (b, none)).2, ?_⟩
  unfold Hp.den
  rw [ids_updL hk, (hAB (b, none)).1]
  simp [Ent.den]
theorem ok_none {H : Hp} (hok : H.ok) {k b : Nat} {o : Option SO} (h : nthO H k = some (b, o)) : Hp.ok (updL H k (b, none)) := by
  intro j b' o'' hj
  rw [ids_updL h, length_updL]
  rw [nthO_updL] at hj
  by_cases hjk : j = k
  · simp [hjk, nthO_lt h] at hj
  · simp [hjk] at hj; exact hok j b' o'' hj
set_option maxHeartbeats 1000000 in
theorem open_sound {P : Program} {e : Env} (he : e.Ok) {w : World} {F : List (Nat × Obj)} (hw : OwnL w (e.H.den ++ F)) {o : Oper} {t : TypeId} {ts : List TypeId} {s x : SV} (hs : s.ok e.H.length e.H.ids) (hx : x.ok e.H.length e.H.ids)
    (hex : execOp e.a.eval o = (do pure (.value (← Builtin.append_ (t :: ts).toArray o.type #[s.den e.H.ids, x.den e.H.ids])))) : PrOk P e.H F w e.a o (openP P e.H t ts[0]? s x) := by
  unfold openP
  split
  · rename_i el hu
    split
    · trivial
    rename_i hel
    simp only [Bool.and_eq_true, Bool.not_eq_true'] at hel
    obtain ⟨hel, hz⟩ := hel
    obtain ⟨d, hd⟩ := Option.isSome_iff_exists.1 hel
    split
    · rename_i k sz lo a len n0 y
      split
      · trivial
      rename_i n hn
      split
      · trivial
      rename_i hnot
      have hnot : n0 < len + n := by
        refine Nat.lt_of_not_le fun h => ?_
        rw [Nat.ble_eq_true_of_le h] at hnot; simp at hnot
      split
      · trivial
      rename_i new hnew
      split
      · trivial
      rename_i old hold
      split
      · trivial
      rename_i hsm
      simp only [Bool.and_eq_true] at hsm
      split
      · trivial
      rename_i hlo
      simp only [Bool.and_eq_true] at hlo
      have hlo0 := Nat.eq_of_beq_eq_true hlo.1
      have hsz := Nat.eq_of_beq_eq_true hlo.2
      subst hlo0; subst hsz
      split
      · rename_i b cs tl m mx es fz fb ty hk
        split
        · rename_i hc
          simp only [Bool.and_eq_true] at hc
          obtain ⟨c1, c2, c3, c4, c5⟩ := hc
          have c1 := Nat.le_of_ble_eq_true c1
          have c2 := Nat.le_of_ble_eq_true c2
          have c3 := Nat.eq_of_beq_eq_true c3
          have c4 := Nat.eq_of_beq_eq_true c4
          have c5 := Nat.eq_of_beq_eq_true c5
          subst c3
          have c4 := c4.symm
          subst c4
          refine ⟨fun heqs => ?_, fun y => by simp [length_updL]⟩
          have hy : y = mx := by
            have := heqs (.int .i64 y, .int .i64 mx) (by simp)
            simp only [SV.int.injEq, true_and] at this
            omega
          subst hy
          have hlen := lenS_sound (P := P) (w := w) hn e.H.ids
          have fnew := firstS_sound (P := P) he.hok hw hx hnew
          have fold := firstS_sound (P := P) he.hok hw (x := .sl k (P.cellsOf el) 0 a len ⟨n0, some y⟩) hs hold
          have hrow := he.hok k b _ hk
          simp only [SV.ok] at hs
          have hkl := nthO_lt hk
          obtain ⟨A, B, hA1, hA2⟩ := den_none hk
          have hdo : (SO.row cs tl m y (P.cellsOf el) fz fb el).den e.H.ids b = [(b, .cells (SV.dens e.H.ids cs ++ tl).toArray el fz)] := rfl
          rw [hdo] at hA1
          have hidsx : ∀ j, Hp.ids (updL e.H k (b, none)) j = e.H.ids j := fun j => by rw [ids_updL hk]
          have hids : ∀ (bn : Nat) (so : SO) (j : Nat), j < e.H.length → Hp.ids (updL e.H k (b, none) ++ [(bn, some so)]) j = e.H.ids j := by
            intro bn so j hj
            rw [ids_append _ (by rw [length_updL]; exact hj), ids_updL hk]
          have hidsn : ∀ (bn : Nat) (so : SO), Hp.ids (updL e.H k (b, none) ++ [(bn, some so)]) e.H.length = bn := by
            intro bn so
            have := ids_new (H := updL e.H k (b, none)) bn (some so)
            rw [length_updL] at this
            exact this
          -- the new object, whichever it is
          have fin : ∀ (bn x' : Nat) (tl' : List Value) (fz' : Nat × Nat) (w' : World), x' * P.cellsOf el ≤ tl'.length → fz'.2 ≤ fb →
              (execOp e.a.eval o).run P w = .ok (.value (.slice (some ⟨bn, 0, none⟩) (len + n) (len + n + x'))) w' →
              OwnL w' (A ++ B ++ [(bn, .cells (SV.dens e.H.ids old ++ SV.dens e.H.ids new ++ tl').toArray el fz')] ++ F) → w'.os = w.os → w'.output = w.output →
              OpOk P e.H F w e.a o (fun r => ∃ y, r = (fun (o : Orc) => (⟨updL e.H k (b, none) ++ [(o.b, some (.row (old ++ new) o.tl 0 o.x (P.cellsOf el) o.fz fb el))], .sl e.H.length (P.cellsOf el) 0 (some ⟨o.b, 0, none⟩) (len + n) ⟨len + n, some o.x⟩⟩ : PRes)) y) := by
            intro bn x' tl' fz' w' g1 g2 g3 g4 g5 g6
            let so : SO := .row (old ++ new) tl' 0 x' (P.cellsOf el) fz' fb el
            have hb : so.ok e.H.length e.H.ids := by
              refine ⟨⟨(oks_iff _ _ _).2 fun x hx => ?_, List.all_eq_true.2 fun x hx => ?_⟩, by omega, g2⟩
              · rcases List.mem_append.1 hx with hx | hx
                · exact (oks_iff _ _ _).1 fold.2.1 x hx
                · exact (oks_iff _ _ _).1 fnew.2.1 x hx
              · rcases List.mem_append.1 hx with hx | hx
                · exact List.all_eq_true.1 fold.2.2 x hx
                · exact List.all_eq_true.1 fnew.2.2 x hx
            have hb' : so.ok (updL e.H k (b, none)).length (Hp.ids (updL e.H k (b, none))) := by rw [ids_updL hk, length_updL]; exact hb
            have hsame := SO.same (fun j hj => hids bn so j hj) (Nat.le_succ e.H.length) bn hb
            have hsok : so.ok ((updL e.H k (b, none)).length + 1) (Hp.ids (updL e.H k (b, none) ++ [(bn, some so)])) := by rw [length_updL]; exact hsame.2
            have hden : Hp.den (updL e.H k (b, none) ++ [(bn, some so)]) = A ++ B ++ [(bn, .cells (SV.dens e.H.ids old ++ SV.dens e.H.ids new ++ tl').toArray el fz')] := by
              rw [den_push (ok_none he.hok hk), hA2, hsame.1]
              simp [so, SO.den, dens_eq]
            refine opok_value (w := w) (w' := w') (r := ⟨updL e.H k (b, none) ++ [(bn, some so)], .sl e.H.length (P.cellsOf el) 0 (some ⟨bn, 0, none⟩) (len + n) ⟨len + n, some x'⟩⟩) ?_ ?_ (ok_push (ok_none he.hok hk) _ _ hsok) ?_ ?_ g5 g6 ⟨⟨bn, x', tl', fz'⟩, rfl⟩
            · rw [g3]
              have e3 : (⟨len + n, some x'⟩ : Cap).v = len + n + x' := by simp only [Cap.v]; omega
              simp only [SV.den, e3]
            · rw [hden]; exact g4
            · exact ⟨by simp [length_updL], fun j hj => hids bn so j hj⟩
            · simp only [SV.ok, Cap.v, List.length_append, List.length_cons, List.length_nil, length_updL]
              refine ⟨by omega, .inr ⟨by omega, ?_⟩⟩
              rw [hidsn]; simp
          by_cases hfit : len + n ≤ y + n0
          · -- in place
            have hcv : (⟨n0, some y⟩ : Cap).v = y + n0 := rfl
            have ha := (hs.2.resolve_left (by rw [hcv]; omega)).2
            have hbk : w.heap[b]? = some (.cells (SV.dens e.H.ids cs ++ tl).toArray el fz) := own_obj hw hk (x := (b, .cells (SV.dens e.H.ids cs ++ tl).toArray el fz)) (by rw [hdo]; simp)
            have hnl : (SV.dens e.H.ids new).length = n * P.cellsOf el := by rw [dens_eq, List.length_map, c5]
            have hstep : (len + n) * P.cellsOf el ≤ (y + n0) * P.cellsOf el := Nat.mul_le_mul_right _ hfit
            have hr2 := hrow.2.1
            have hexp : (y + n0) * P.cellsOf el = y * P.cellsOf el + n0 * P.cellsOf el := Nat.add_mul _ _ _
            have hexp2 : (len + n) * P.cellsOf el = len * P.cellsOf el + n * P.cellsOf el := Nat.add_mul _ _ _
            have hsize : len * P.cellsOf el + (SV.dens e.H.ids new).length ≤ (SV.dens e.H.ids cs ++ tl).length := by
              rw [hnl, List.length_append, dens_eq, List.length_map]; omega
            have hnc : n0 * P.cellsOf el ≥ len * P.cellsOf el ∨ True := .inr trivial
            obtain ⟨w', r1, r2⟩ := storeCells_run (P := P) (b := b) (off := len * P.cellsOf el) (t := el) (fz := fz) (by have := hrow.2.2; omega) (SV.dens e.H.ids new) 0 w _ hbk (by simpa using hsize) (cells_toList_one (x := .nil) fnew.2.1 fnew.2.2)
            rw [foldSet_arr _ _ _ hsize] at r2
            have hold' : SV.dens e.H.ids old = (SV.dens e.H.ids cs ++ tl).take (len * P.cellsOf el) := by
              unfold firstS at hold
              simp only at hold
              split at hold
              · simp only [Option.some.injEq] at hold; subst hold; simp [SV.dens]
              · split at hold
                · unfold cellsAt at hold
                  rw [hk] at hold
                  simp only [Nat.zero_mul] at hold
                  obtain ⟨q1, q2⟩ := sub_spec hold
                  have : old = cs.take old.length := by
                    apply List.ext_getElem?
                    intro j
                    by_cases hj : j < old.length
                    · rw [List.getElem?_take_of_lt hj, ← q2 j (by omega), Nat.zero_add]
                    · rw [List.getElem?_eq_none (by omega), List.getElem?_eq_none (by simp; omega)]
                  have hle : old.length ≤ cs.length := by
                    have := congrArg List.length this
                    rw [List.length_take] at this
                    omega
                  rw [← q1, dens_eq, dens_eq, List.take_append_of_le_length (by rw [List.length_map]; exact hle), ← List.map_take, ← this]
                · simp at hold
            refine fin b (y + n0 - (len + n)) ((SV.dens e.H.ids cs ++ tl).drop (len * P.cellsOf el + n * P.cellsOf el)) fz w' ?_ hrow.2.2 ?_ ?_ r2.os r2.out
            · rw [List.length_drop, List.length_append, dens_eq, List.length_map, Nat.sub_mul, hexp, hexp2]
              omega
            · rw [hex, Sem.run_bind]
              have hst : StoresTo P a (len * P.cellsOf el) (SV.dens e.H.ids new).toArray.toList w w' := by
                rw [ha]
                simp only [StoresTo, addr_add, Nat.zero_mul, Nat.zero_add]
                rw [ids_of hk]
                exact r1
              have := append_inplace (P := P) (w := w) (w' := w') hu rfl hz hd hlen (show len + n ≤ (⟨n0, some y⟩ : Cap).v by rw [hcv]; exact hfit) fnew.1 hst o.type
              simp only [SV.den]
              rw [this]
              have e4 : (⟨n0, some y⟩ : Cap).v = len + n + (y + n0 - (len + n)) := by rw [hcv]; omega
              rw [ha]
              simp only [Sem.run_pure, Result.andThen_ok, Nat.zero_mul, ids_of hk]
              rw [e4]
            · have h1 : OwnL w (A ++ (b, .cells (SV.dens e.H.ids cs ++ tl).toArray el fz) :: (B ++ F)) := by
                rw [hA1] at hw; simpa using hw
              have h2 := h1.upd' r2
              rw [hnl, ← hold'] at h2
              refine h2.perm ?_
              have := (List.perm_middle (a := (b, Obj.cells (SV.dens e.H.ids old ++ SV.dens e.H.ids new ++ List.drop (len * P.cellsOf el + n * P.cellsOf el) (SV.dens e.H.ids cs ++ tl)).toArray el fz)) (l₁ := B) (l₂ := F)).symm
              simpa using List.Perm.append_left A this
          · -- a new array
            unfold zeroLen at hsm
            split at hsm
            · rename_i z hzt
              have hzl := Nat.eq_of_beq_eq_true hsm.2
              obtain ⟨zv, z1, z2, z3, z4⟩ := zeroT_sound hzt e.H.length e.H.ids
              have heap : ∀ w' : World, w'.heap = w.heap → OwnL w' (e.H.den ++ F) := fun w' h => hw.heap h
              have hcv : (⟨n0, some y⟩ : Cap).v = y + n0 := rfl
              obtain ⟨kx, hrun⟩ := append_grow (ad := a) (cap := y + n0) hu rfl hz hsm.1 hd z1 hlen rfl (by omega) (fun w' h => (firstS_sound (P := P) he.hok (heap w' h) (x := .sl k (P.cellsOf el) 0 a len ⟨n0, some y⟩) (by simp only [SV.ok]; exact hs) hold).1) (fun w' h => (firstS_sound (P := P) he.hok (heap w' h) hx hnew).1) o.type
              let tl2 := (Builtin.zeroCells zv.cells kx).toList
              have htl : tl2.length = kx * P.cellsOf el := by
                simp only [tl2, Array.length_toList, size_zeroCells, z2]
                simp [dens_eq, hzl]
              refine fin w.heap.size kx tl2 (0, 0) (World.alloc { w with drawn := w.drawn + 1 } (.cells (SV.dens e.H.ids old ++ SV.dens e.H.ids new ++ tl2).toArray el)) (by omega) (Nat.zero_le _) ?_ ?_ rfl rfl
              · rw [hex]
                have e1 : (SV.dens e.H.ids old).toArray ++ (SV.dens e.H.ids new).toArray ++ Builtin.zeroCells zv.cells kx = (SV.dens e.H.ids old ++ SV.dens e.H.ids new ++ tl2).toArray := by
                  apply Array.ext'
                  simp [tl2]
                rw [e1] at hrun
                rw [Sem.run_bind]
                have e2 : (SV.sl k (P.cellsOf el) 0 a len ⟨n0, some y⟩).den e.H.ids = .slice a len (y + n0) := by simp [SV.den, Cap.v]
                rw [e2, hrun, Result.andThen_ok, Sem.run_pure]
              · have h0 : OwnL ({ w with drawn := w.drawn + 1 } : World) (A ++ (b, .cells (SV.dens e.H.ids cs ++ tl).toArray el fz) :: (B ++ F)) := by
                  rw [hA1] at hw
                  have : OwnL w (A ++ (b, .cells (SV.dens e.H.ids cs ++ tl).toArray el fz) :: (B ++ F)) := by simpa using hw
                  exact this.heap rfl
                have h1 := (h0.sublist (List.Sublist.append_left (List.sublist_cons_self _ _) A)).alloc (.cells (SV.dens e.H.ids old ++ SV.dens e.H.ids new ++ tl2).toArray el)
                refine h1.perm ?_
                have := (List.perm_middle (a := (w.heap.size, Obj.cells (SV.dens e.H.ids old ++ SV.dens e.H.ids new ++ tl2).toArray el)) (l₁ := A ++ B) (l₂ := F)).symm
                simpa using this
            · simp at hsm
        · trivial
      · trivial
    · trivial
  · trivial
end Go.Sx
