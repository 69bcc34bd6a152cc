import Derived.Test.YtaalpiacinifkaaGreatDoorS5
import Derived.Lib.UnsafeStr
import Derived.Lib.Builder
/- Part of the proof that ForwardNone of law 21 returns true whatever it is called with. No condition. -/
set_option linter.all false
/- The symbolic executor 'Sx': unsafe.SliceData, unsafe.String, pointers that are no pointers for a while; ranges over maps. -/
namespace Go.Sx
open Go

/-! ### unsafe.SliceData, unsafe.String -/
def sliceDataP (H : Hp) (x : SV) : PR :=
  match x with
  | .sl k sz lo a _ cap => match a with
    | none => .det ⟨H, .nil⟩ True
    | some _ => .det ⟨H, .elt k lo sz 0⟩ (cap.v ≠ 0)
  | _ => .no
theorem sliceData_sound {P : Program} {e : Env} (he : e.Ok) {w : World} {F : List (Nat × Obj)} (hw : OwnL w (e.H.den ++ F)) {o : Oper} {ts : Array TypeId} {x : SV} (hx : x.ok e.H.length e.H.ids)
    (hex : execOp e.a.eval o = (do pure (.value (← Builtin.unsafeSliceData_ ts o.type #[x.den e.H.ids])))) : PrOk P e.H F w e.a o (sliceDataP e.H x) := by
  unfold sliceDataP
  split
  · rename_i k sz lo a len cap
    split
    · intro _
      refine ⟨opok_value (r := ⟨e.H, .nil⟩) (w' := w) ?_ hw he.hok (Ext.refl _) (by simp [SV.ok]) rfl rfl rfl, rfl⟩
      rw [hex, Sem.run_bind]
      simp only [SV.den]
      rw [Lib.run_unsafeSliceData_nil, Result.andThen_ok, Sem.run_pure]
    · intro hc
      simp only [SV.ok] at hx
      obtain ⟨h1, h2⟩ := hx.2.resolve_left hc
      refine ⟨opok_value (r := ⟨e.H, .elt k lo sz 0⟩) (w' := w) ?_ hw he.hok (Ext.refl _) (by simp only [SV.ok]; exact h1) rfl rfl rfl, rfl⟩
      rw [hex, Sem.run_bind]
      simp only [SV.den]
      rw [h2, Lib.run_unsafeSliceData_row _ _ _ _ _ _ hc, Result.andThen_ok, Sem.run_pure]
      rfl
  · trivial
/-- A row's frozen range, with n cells from place o on frozen too. -/
def frzN (z : Nat × Nat) (o n : Nat) : Nat × Nat := if z.1 == z.2 then (o, o + n) else (min z.1 o, max z.2 (o + n))
def usRow (so : SO) (m : Nat) : Option (List SV × TypeId × SO) :=
  match so with
  | .cells cs ty => some (cs, ty, .row cs [] 0 0 0 (frzN (0, 0) 0 m) m ty)
  | .row cs tl m' mx es fz fb ty => some (cs, ty, .row cs tl m' mx es (frzN fz 0 m) (max fb m) ty)
  | _ => none
def unsafeStringP (P : Program) (H : Hp) (t : TypeId) (x n : SV) : PR :=
  match isInt n with
  | some (_, .i64, .ofNat m) => match m with
    | 0 => match x with
      | .nil => .det ⟨H, .str []⟩ True
      | .elt _ _ _ _ => .det ⟨H, .str []⟩ True
      | _ => .no
    | m + 1 => match x with
      | .elt k i sz j => match Nat.beq (i * sz + j) 0 with
        | false => .no
        | true => match P.underlying t with
          | some (.pointer el) => match nthO H k with
            | some (b, some so) => match usRow so (m + 1) with
              | some (cs, ty, so') => match Nat.beq ty el && Nat.beq (P.cellsOf el) 1 with
                | true => match sub cs 0 (m + 1) with
                  | some c => match bytesOf c with
                    | some l => .det ⟨updL H k (b, some so'), .str l⟩ (m + 1 ≤ 9223372036854775807)
                    | none => .no
                  | none => .no
                | false => .no
              | none => .no
            | _ => .no
          | _ => .no
      | _ => .no
  | _ => .no
theorem bytesOf_ints {ids : Nat → Nat} : ∀ {cs : List SV} {l : List UInt8}, bytesOf cs = some l → ∃ as : List Int, l = as.map (fun y => UInt8.ofNat y.toNat) ∧ SV.dens ids cs = as.map (Value.int .u8)
  | [], l, h => by simp [bytesOf] at h; subst h; exact ⟨[], rfl, rfl⟩
  | c :: cs, l, h => by
    simp only [bytesOf] at h
    split at h
    · rename_i li a hi
      split at h
      · rename_i l' hl'
        simp only [Option.some.injEq] at h; subst h
        obtain ⟨as, h1, h2⟩ := bytesOf_ints (ids := ids) hl'
        exact ⟨a :: as, by simp [h1], by simp [SV.dens, isInt_den hi ids, h2]⟩
      · simp at h
    · simp at h
theorem loadBytes_run {P : Program} {w : World} : ∀ (as : List Int) (a : Addr) (acc : ByteArray), (∀ (j : Nat) (y : Int), as[j]? = some y → w.cell? (a.add j) = some (.int .u8 y)) →
    (loadBytes a acc as.length).run P w = .ok ⟨acc.data ++ (as.map (fun y => UInt8.ofNat y.toNat)).toArray⟩ w
  | [], a, acc, _ => by simp [loadBytes]
  | x :: l, a, acc, h => by
    have h0 : w.cell? a = some (.int .u8 x) := by
      have := h 0 x rfl
      simpa [Addr.add] using this
    have ih := loadBytes_run (P := P) l (a.add 1) (acc.push x.toNat.toUInt8) (fun j y hy => by
      have := h (j + 1) y (by simpa using hy)
      have e : (a.add 1).add j = a.add (j + 1) := by
        unfold Addr.add
        by_cases hj : j = 0
        · subst hj; simp
        · simp [hj]; omega
      rw [e]; exact this)
    simp only [List.length_cons, loadBytes, Sem.run_bind, run_load, h0, Result.andThen]
    rw [ih]
    congr 1
    apply ByteArray.ext
    simp [ByteArray.push]
theorem unsafeString_run {P : Program} {w : World} (pt it ty e : TypeId) (hp : P.underlying pt = some (.pointer e)) (hc : P.cellsOf e = 1) (g cells : Nat) (hsh : w.shape? g = some (e, cells)) (l : List Int) (h0 : l ≠ []) (hn : l.length ≤ cells) (h63 : l.length ≤ 9223372036854775807)
    (hcell : ∀ (j : Nat) (x : Int), l[j]? = some x → w.cell? ((⟨g, 0, none⟩ : Addr).add j) = some (.int .u8 x)) :
    (Builtin.unsafeString_ #[pt, it] ty #[.pointer (some ⟨g, 0, none⟩), .int .i64 l.length]).run P w = .ok (.string ⟨(l.map (fun y => UInt8.ofNat y.toNat)).toArray⟩) (w.freeze ⟨g, 0, none⟩ l.length) := by
  have hl : l.length ≠ 0 := by simpa using h0
  have hlb := loadBytes_run (P := P) (w := w) l ⟨g, 0, none⟩ .empty hcell
  have hlies := Lib.liesAt_bytes (P := P) hc (cells / P.cellsOf e) l.length (by rw [hc]; simpa using hn)
  have h63' : ¬ (9223372036854775807 : Int) < (l.length : Int) := by omega
  obtain ⟨msg, hdef⟩ : ∃ msg : String, Builtin.unsafeString_ #[pt, it] ty #[.pointer (some ⟨g, 0, none⟩), .int .i64 l.length] =
      (do
        let n ← asInt (.int .i64 l.length)
        if n < 0 then runtimePanic (.error msg)
        if n > IntKind.i64.max then unsupported (.unsafePointer "String: a length above the largest int")
        if n = 0 then pure (.string .empty)
        else if ← variablesAt ⟨g, 0, none⟩ (← elemOf pt) n.toNat then do
          let s ← loadBytes ⟨g, 0, none⟩ .empty n.toNat
          freeze ⟨g, 0, none⟩ n.toNat
          pure (.string s)
        else unsupported (.unsafePointer "String: not so many bytes at ptr")) := ⟨_, rfl⟩
  rw [hdef]
  have hmax : IntKind.i64.max = 9223372036854775807 := rfl
  have hneg : ¬ (l.length : Int) < 0 := by omega
  simp [asInt, asIntOf, hmax, h63', hneg, hl, variablesAt, hsh, elemOf, underlying_run hp, hlies, hlb]
/-! ### Pointers that are no pointers for a while -/
def ptrElem (P : Program) (s d : TypeId) : Option TypeId :=
  match P.underlying s with
  | some (.pointer u) => match P.underlying d with | some .unsafePointer => some u | _ => none
  | some .unsafePointer => match P.underlying d with | some (.pointer u) => some u | _ => none
  | _ => none
def ptrConvP (P : Program) (H : Hp) (s d : TypeId) (x : SV) : PR :=
  match ptrElem P s d with
  | some u => match x with
    | .ptr k o => match Nat.beq o 0 with
      | true => match nthO H k with
        | some (_, some (.cells cs ty)) => match Nat.beq ty u && (!Nat.beq (P.cellsOf u) 0 && Nat.beq cs.length (P.cellsOf u)) with
          | true => .det ⟨H, .ptr k 0⟩ True
          | false => .no
        | _ => .no
      | false => .no
    | _ => .no
  | none => .no
theorem liesAt_whole {P : Program} {e : TypeId} (hc : P.cellsOf e ≠ 0) : liesAt P P.depth e (P.cellsOf e / P.cellsOf e) 0 e 1 = true := by
  have hd : P.depth = (2 * (P.types.size + Made.depth) + 1) + 1 := rfl
  have h1 : P.cellsOf e / P.cellsOf e = 1 := Nat.div_self (Nat.pos_of_ne_zero hc)
  rw [hd, h1]
  simp only [liesAt, Bool.or_eq_true]
  left
  rw [hd]
  simp [rowAt, hc, sameLayout]
theorem ptrConv_sound {P : Program} {e : Env} (he : e.Ok) {w : World} {F : List (Nat × Obj)} (hw : OwnL w (e.H.den ++ F)) {o : Oper} {s d : TypeId} {x : SV}
    (hex : execOp e.a.eval o = (do pure (.value (← convert s d (x.den e.H.ids))))) : PrOk P e.H F w e.a o (ptrConvP P e.H s d x) := by
  unfold ptrConvP
  split
  · rename_i u hu
    split
    · rename_i k off
      split
      · rename_i ho
        have ho := Nat.eq_of_beq_eq_true ho
        subst ho
        split
        · rename_i b cs ty hk
          split
          · rename_i hc
            simp only [Bool.and_eq_true, Bool.not_eq_true'] at hc
            obtain ⟨c1, c2, c3⟩ := hc
            have c1 := Nat.eq_of_beq_eq_true c1
            have c3 := Nat.eq_of_beq_eq_true c3
            subst c1
            have c2' : P.cellsOf ty ≠ 0 := by intro h; rw [h] at c2; simp at c2
            have hb : w.heap[b]? = some (.cells (SV.dens e.H.ids cs).toArray ty) := own_obj hw hk (x := (b, .cells (SV.dens e.H.ids cs).toArray ty)) (by simp [SO.den])
            have hsz : (SV.dens e.H.ids cs).toArray.size = P.cellsOf ty := by simp [dens_eq, c3]
            have hsh : w.shape? b = some (ty, P.cellsOf ty) := by simp [World.shape?, hb, ← hsz]
            obtain ⟨j, hj⟩ : ∃ j, P.info? ty = some j := by
              cases hi : P.info? ty with
              | none => simp [Program.cellsOf, hi] at c2'
              | some j => exact ⟨j, rfl⟩
            have hjs : j.size ≠ 0 := by simpa [Program.cellsOf, hj] using c2'
            intro _
            refine ⟨opok_value (r := ⟨e.H, .ptr k 0⟩) (w' := w) ?_ hw he.hok (Ext.refl _) (by simp only [SV.ok]; exact nthO_lt hk) rfl rfl rfl, rfl⟩
            rw [hex, Sem.run_bind]
            simp only [SV.den, ids_of hk]
            have key : (convert s d (.pointer (some ⟨b, 0, none⟩))).run P w = .ok (.pointer (some ⟨b, 0, none⟩)) w := by
              unfold ptrElem at hu
              split at hu
              · rename_i u' hs
                split at hu
                · rename_i hd
                  simp only [Option.some.injEq] at hu; subst hu
                  exact Lib.run_to_unsafe w ⟨b, 0, none⟩ hs hd hj hjs hsh (Nat.pos_of_ne_zero c2')
                · simp at hu
              · rename_i hs
                split at hu
                · rename_i u' hd
                  simp only [Option.some.injEq] at hu; subst hu
                  exact Lib.run_from_unsafe w ⟨b, 0, none⟩ hs hd hj hsh (liesAt_whole c2')
                · simp at hu
              · simp at hu
            rw [key, Result.andThen_ok, Sem.run_pure]
          · trivial
        · trivial
      · trivial
    · trivial
  · trivial
/-! ### Ranges over maps -/
theorem new_obj {P : Program} {e : Env} (he : e.Ok) {w : World} {F : List (Nat × Obj)} (hw : OwnL w (e.H.den ++ F)) {o : Oper} (so : SO) (ob : Obj) (hso : so.ok e.H.length e.H.ids) (hden : so.den e.H.ids w.heap.size = [(w.heap.size, ob)]) {w0 : World} (hheap : w0.heap = w.heap) (hos : w0.os = w.os) (hout : w0.output = w.output)
    {v : SV} (hv : v.ok (e.H.length + 1) (Hp.ids (e.H ++ [(w.heap.size, some so)])))
    (hex : (execOp e.a.eval o).run P w = .ok (.value (v.den (Hp.ids (e.H ++ [(w.heap.size, some so)])))) (w0.alloc ob)) {R : PRes → Prop} (hR : R ⟨e.H ++ [(w.heap.size, some so)], v⟩) : OpOk P e.H F w e.a o R := by
  have hsame := SO.same (fun j hj => ids_append (w.heap.size, some so) hj) (Nat.le_succ e.H.length) w.heap.size hso
  have hd : Hp.den (e.H ++ [(w.heap.size, some so)]) = e.H.den ++ [(w.heap.size, ob)] := by
    rw [den_push he.hok, hsame.1, hden]
  refine opok_value (w := w) (r := ⟨e.H ++ [(w.heap.size, some so)], v⟩) (w' := w0.alloc ob) hex ?_ (ok_push he.hok _ _ hsame.2) (ext_push _) (by simpa using hv) hos hout hR
  rw [hd]
  have h0 : OwnL w0 (e.H.den ++ F) := hw.heap hheap
  have := h0.alloc ob
  rw [hheap] at this
  exact this.perm (by simpa using (List.perm_middle (a := (w.heap.size, ob)) (l₁ := e.H.den) (l₂ := F)).symm)
def rangeP (P : Program) (H : Hp) (t : TypeId) (x : SV) : PR :=
  match P.underlying t with
  | some (.map _ _) => match x with
    | .mapp k => match nthO H k with
      | some (_, some (.mapc _ c)) => .new (fun o => ⟨H ++ [(o.b, some (.iterc (some k) c [] c))], .ptr H.length 0⟩) []
      | _ => .no
    | .nilmap => .new (fun o => ⟨H ++ [(o.b, some (.iterc none 0 [] 0))], .ptr H.length 0⟩) []
    | _ => .no
  | _ => .no
theorem range_sound {P : Program} {e : Env} (he : e.Ok) {w : World} {F : List (Nat × Obj)} (hw : OwnL w (e.H.den ++ F)) {o : Oper} {t : TypeId} {x : SV}
    (hex : execOp e.a.eval o = (do pure (.value (← Instr.range t (x.den e.H.ids))))) : PrOk P e.H F w e.a o (rangeP P e.H t x) := by
  unfold rangeP
  split
  · rename_i kt el hu
    split
    · rename_i k
      split
      · rename_i b es c hk
        have hb := own_mapc hw hk
        refine ⟨fun _ => ?_, fun y => by simp⟩
        refine new_obj he hw (.iterc (some k) c [] c) (.mapIter (some (e.H.ids k)) c #[] c) (by simp only [SO.ok]; intro k' hk'; simp only [Option.some.injEq] at hk'; subst hk'; exact nthO_lt hk) (by simp [SO.den]) rfl rfl rfl (v := .ptr e.H.length 0) (by simp [SV.ok]) ?_ ⟨⟨w.heap.size, 0, [], (0, 0)⟩, rfl⟩
        rw [hex]
        simp only [SV.den, ids_new]
        simp [Instr.range, underlying_run hu, getObj, Sem.run, hb, newObj]
      · trivial
    · refine ⟨fun _ => ?_, fun y => by simp⟩
      refine new_obj he hw (.iterc none 0 [] 0) (.mapIter none 0 #[] 0) (by simp [SO.ok]) (by simp [SO.den]) rfl rfl rfl (v := .ptr e.H.length 0) (by simp [SV.ok]) ?_ ⟨⟨w.heap.size, 0, [], (0, 0)⟩, rfl⟩
      rw [hex]
      simp only [SV.den, ids_new]
      simp [Instr.range, underlying_run hu, newObj, Sem.run]
    · trivial
  · trivial
def leftE (seen : List Nat) (es : List (SV × SV × Nat)) : List (SV × SV × Nat) := es.filter fun e => !seen.contains e.2.2
/-- Some entry is older than the last round; or it doesn't matter. -/
def stepB (seen : List Nat) (es : List (SV × SV × Nat)) (last : Nat) : Bool :=
  match seen with
  | [] => true
  | _ :: _ => match es with
    | [] => true
    | _ :: _ => !(es.all fun e => Nat.ble last e.2.2)
def nextP (H : Hp) (x : SV) : PR :=
  match x with
  | .ptr k off => match Nat.beq off 0 with
    | false => .no
    | true => match nthO H k with
      | some (b, some (.iterc mk since seen last)) => match mk with
        | none => .det ⟨H, .tup [.blit false]⟩ True
        | some m => match nthO H m with
          | some (_, some (.mapc es c)) => match stepB seen es last with
            | false => .no
            | true => match leftE seen es with
              | [] => .det ⟨H, .tup [.blit false]⟩ True
              | [(key, val, n)] => match Nat.ble (n + 1) since with
                | true => .det ⟨updL H k (b, some (.iterc (some m) since (seen ++ [n]) c)), .tup [.blit true, key, val]⟩ True
                | false => .no
              | _ => .no
          | _ => .no
      | _ => .no
  | _ => .no
theorem own_iter {w : World} {H : Hp} {F : List (Nat × Obj)} (hw : OwnL w (H.den ++ F)) {k b : Nat} {m : Option Nat} {since : Nat} {seen : List Nat} {last : Nat} (h : nthO H k = some (b, some (.iterc m since seen last))) : w.heap[b]? = some (.mapIter (m.map H.ids) since seen.toArray last) :=
  own_obj hw h (x := (b, .mapIter (m.map H.ids) since seen.toArray last)) (by simp [SO.den])
theorem next_unsup {ids : Nat → Nat} {seen : List Nat} {es : List (SV × SV × Nat)} {last : Nat} (h : stepB seen es last = true) :
    (!seen.toArray.isEmpty && !(es.map (entV ids)).toArray.isEmpty && (es.map (entV ids)).toArray.all (fun e => decide (e.born ≥ last))) = false := by
  unfold stepB at h
  split at h
  · simp
  · split at h
    · simp
    · rename_i x r y es
      simp only [Bool.not_eq_true'] at h
      have : (((y :: es).map (entV ids)).toArray.all (fun e => decide (e.born ≥ last))) = false := by
        rw [← Bool.not_eq_true] at h ⊢
        intro h'
        apply h
        rw [List.all_eq_true]
        intro z hz
        have h' : ((y :: es).map (entV ids)).all (fun e => decide (e.born ≥ last)) = true := by simpa using h'
        rw [List.all_eq_true] at h'
        have := h' (entV ids z) (List.mem_map.2 ⟨z, hz, rfl⟩)
        simp [entV] at this
        exact Nat.ble_eq_true_of_le this
      rw [this]; simp
theorem left_filter {ids : Nat → Nat} {seen : List Nat} {es : List (SV × SV × Nat)} : (es.map (entV ids)).toArray.filter (fun e => !seen.toArray.contains e.born) = ((leftE seen es).map (entV ids)).toArray := by
  unfold leftE
  apply Array.ext'
  have h1 : ((es.map (entV ids)).toArray.filter (fun e => !seen.toArray.contains e.born)).toList = (es.map (entV ids)).filter (fun e => !seen.toArray.contains e.born) := by simp
  rw [h1, List.filter_map]
  have h2 : ((fun e : MapEntry => !seen.toArray.contains e.born) ∘ entV ids) = (fun e => !seen.contains e.2.2) := by
    funext x
    simp [entV]
    exact decide_eq_decide.2 Iff.rfl
  rw [h2]
theorem next_sound {P : Program} {e : Env} (he : e.Ok) {w : World} {F : List (Nat × Obj)} (hw : OwnL w (e.H.den ++ F)) {o : Oper} {x : SV} (hx : x.ok e.H.length e.H.ids) {ty : TypeId}
    (hex : execOp e.a.eval o = (do pure (.value (← Instr.next (x.den e.H.ids) false ty)))) : PrOk P e.H F w e.a o (nextP e.H x) := by
  unfold nextP
  split
  · rename_i k off
    split
    · trivial
    rename_i ho
    have ho := Nat.eq_of_beq_eq_true ho
    subst ho
    split
    · rename_i b mk since seen last hk
      have hit := own_iter hw hk
      have over : (execOp e.a.eval o).run P w = .ok (.value (.tuple #[.bool false])) w → PrOk P e.H F w e.a o (.det ⟨e.H, .tup [.blit false]⟩ True) := by
        intro h _
        refine ⟨opok_value (r := ⟨e.H, .tup [.blit false]⟩) (w' := w) ?_ hw he.hok (Ext.refl _) (by simp [SV.ok, SV.oks]) rfl rfl rfl, rfl⟩
        rw [h]; simp [SV.den, SV.dens]
      split
      · apply over
        rw [hex]
        simp only [SV.den, ids_of hk]
        simp [Instr.next, getObj, Sem.run, hit]
      · rename_i m
        split
        · rename_i bm es c hm
          have hmo := own_mapc hw hm
          split
          · trivial
          rename_i hst
          have hun := next_unsup (ids := e.H.ids) hst
          have hlf := left_filter (ids := e.H.ids) (seen := seen) (es := es)
          have base : ∀ (R : Result Value), (Instr.next (.pointer (some ⟨b, 0, none⟩)) false ty).run P w = R → True := fun _ _ => trivial
          split
          · rename_i hleft
            simp only [hleft] at hlf
            apply over
            rw [hex]
            simp only [SV.den, ids_of hk]
            simp only [Instr.next, Sem.run_bind, getObj, Sem.run, hit, Option.map_some, Result.andThen_ok, hmo, hun, hlf, Bool.false_eq_true, if_false]
            simp [choose, Sem.run, Question.forced]
          · rename_i key val n hleft
            simp only [hleft] at hlf
            split
            · rename_i hle
              have hle := Nat.le_of_ble_eq_true hle
              have hmem : (key, val, n) ∈ es := by
                have : (key, val, n) ∈ leftE seen es := by rw [hleft]; simp
                exact (List.mem_filter.1 this).1
              have hes := he.hok m bm _ hm (key, val, n) hmem
              intro _
              obtain ⟨A, B, hAB, hAw⟩ := own_split hw hk
              have hiok : ∀ (s : List Nat) (l : Nat), SO.ok e.H.length e.H.ids (.iterc (some m) since s l) := by
                intro s l k' hk'
                simp only [Option.some.injEq] at hk'; subst hk'; exact nthO_lt hm
              let w' : World := { w with heap := w.heap.setIfInBounds b (.mapIter (some (e.H.ids m)) since (seen.toArray.push n) c) }
              have h0 : (SO.iterc (some m) since seen last).den e.H.ids b = [(b, .mapIter (some (e.H.ids m)) since seen.toArray last)] := by simp [SO.den]
              have h1 : (SO.iterc (some m) since (seen ++ [n]) c).den e.H.ids b = [(b, .mapIter (some (e.H.ids m)) since (seen.toArray.push n) c)] := by simp [SO.den]
              have hext : Ext e.H (updL e.H k (b, some (.iterc (some m) since (seen ++ [n]) c))) := ext_same (ids_updL hk) (length_updL _ _ _)
              refine ⟨opok_value (w := w) (R := fun x => x = _) (r := ⟨updL e.H k (b, some (.iterc (some m) since (seen ++ [n]) c)), .tup [.blit true, key, val]⟩) (w' := w') ?_ ?_ (ok_updL he.hok hk (hiok _ _)) hext (by simp only [SV.ok, SV.oks, ids_updL hk, length_updL]; exact ⟨trivial, hes.1, hes.2, trivial⟩) rfl rfl rfl, length_updL _ _ _⟩
              · rw [hex]
                simp only [SV.den, SV.dens, ids_of hk, ids_updL hk]
                simp only [Instr.next, Sem.run_bind, getObj, Sem.run, hit, Option.map_some, Result.andThen_ok, hmo, hun, hlf, Bool.false_eq_true, if_false]
                have hlt : n < since := hle
                have hge : ¬ since ≤ n := by omega
                simp [choose, Sem.run, Question.forced, entV, hlt, hge, setObj, hit, w']
              · rw [hAB, h1]
                rw [h0] at hAw
                have := OwnL.upd (A := A) (B := B ++ F) (by simpa using hAw) (w' := w') rfl
                simpa using this
            · trivial
          · trivial
        · trivial
    · trivial
  · trivial
end Go.Sx

/- The symbolic executor 'Sx': unsafe.String; clear of a slice; functions without a Go body. -/
namespace Go.Sx
open Go

theorem upd_freeze {w : World} {b o n : Nat} {c : Array Value} {t : TypeId} {fz : Nat × Nat} (h : w.heap[b]? = some (.cells c t fz)) (hn : n ≠ 0) : Upd w (w.freeze ⟨b, o, none⟩ n) b (.cells c t (frzN fz o n)) := by
  unfold World.freeze
  rw [if_neg hn]
  refine ⟨?_, fun x hx => ?_, rfl, rfl⟩
  · obtain ⟨lo, hi⟩ := fz
    simp [Array.getElem?_modify, h, frzN]
  · simp only [Array.getElem?_modify]
    rw [if_neg (fun e => hx e.symm)]
theorem frzN_le {fz : Nat × Nat} {o n fb : Nat} (h : fz.2 ≤ fb) : (frzN fz o n).2 ≤ max fb (o + n) := by
  unfold frzN
  split
  · exact Nat.le_max_right _ _
  · simp only; omega
theorem usRow_spec {so so' : SO} {m : Nat} {cs : List SV} {ty : TypeId} (h : usRow so m = some (cs, ty, so')) {N : Nat} {ids : Nat → Nat} (hok : so.ok N ids) (b : Nat) :
    ∃ (tl : List Value) (fz : Nat × Nat), so.den ids b = [(b, .cells (SV.dens ids cs ++ tl).toArray ty fz)] ∧ so'.den ids b = [(b, .cells (SV.dens ids cs ++ tl).toArray ty (frzN fz 0 m))] ∧ so'.ok N ids := by
  unfold usRow at h
  split at h
  · rename_i cs0 ty0
    simp only [Option.some.injEq, Prod.mk.injEq] at h; obtain ⟨rfl, rfl, rfl⟩ := h
    refine ⟨[], (0, 0), by simp [SO.den], by simp [SO.den], hok, by simp, ?_⟩
    have := frzN_le (fz := (0, 0)) (o := 0) (n := m) (fb := 0) (Nat.le_refl _)
    omega
  · rename_i cs0 tl m' mx es fz fb ty0
    simp only [Option.some.injEq, Prod.mk.injEq] at h; obtain ⟨rfl, rfl, rfl⟩ := h
    refine ⟨tl, fz, rfl, rfl, hok.1, hok.2.1, ?_⟩
    have := frzN_le (o := 0) (n := m) hok.2.2
    omega
  · simp at h
theorem unsafeString_sound {P : Program} {e : Env} (he : e.Ok) {w : World} {F : List (Nat × Obj)} (hw : OwnL w (e.H.den ++ F)) {o : Oper} {t it : TypeId} {x n : SV} (hx : x.ok e.H.length e.H.ids)
    (hex : execOp e.a.eval o = (do pure (.value (← Builtin.unsafeString_ #[t, it] o.type #[x.den e.H.ids, n.den e.H.ids])))) : PrOk P e.H F w e.a o (unsafeStringP P e.H t x n) := by
  unfold unsafeStringP
  split
  · rename_i l m hn
    have hnd := isInt_den hn e.H.ids
    rw [hnd] at hex
    have empty : ∀ p, x.den e.H.ids = .pointer p → m = 0 → PrOk P e.H F w e.a o (.det ⟨e.H, .str []⟩ True) := by
      intro p hp hm _
      refine ⟨opok_value (w := w) (r := ⟨e.H, .str []⟩) (w' := w) ?_ hw he.hok (Ext.refl _) (by simp [SV.ok]) rfl rfl rfl, rfl⟩
      rw [hex, hp, hm, Sem.run_bind]
      rw [show (Int.ofNat 0) = 0 from rfl, Lib.run_unsafeString_none, Result.andThen_ok, Sem.run_pure]
      rfl
    split
    · split
      · exact empty none (by simp [SV.den]) rfl
      · exact empty _ (by simp only [SV.den]; rfl) rfl
      · trivial
    · rename_i m
      split
      · rename_i k i sz j
        split
        · trivial
        rename_i h0
        have h0 := Nat.eq_of_beq_eq_true h0
        split
        · rename_i el hu
          split
          · rename_i b so hk
            split
            · rename_i cs ty so' hus
              split
              · rename_i hc
                simp only [Bool.and_eq_true] at hc
                have c1 := (Nat.eq_of_beq_eq_true hc.1).symm
                have c2 := Nat.eq_of_beq_eq_true hc.2
                subst c1
                split
                · rename_i c hsub
                  split
                  · rename_i s hs
                    intro hmax
                    obtain ⟨tl, fz, d1, d2, d3⟩ := usRow_spec hus (he.hok k b _ hk) b
                    obtain ⟨A, B, hAB, hAw⟩ := own_split hw hk
                    rw [d1] at hAw
                    have hb : w.heap[b]? = some (.cells (SV.dens e.H.ids cs ++ tl).toArray el fz) := hAw.2 (b, _) (by simp)
                    obtain ⟨q1, q2⟩ := sub_spec hsub
                    obtain ⟨as, b1, b2⟩ := bytesOf_ints (ids := e.H.ids) hs
                    have hal : as.length = m + 1 := by
                      have := congrArg List.length b2
                      rw [dens_eq, List.length_map, List.length_map, q1] at this
                      exact this.symm
                    have hall : ∀ j, j < m + 1 → (SV.dens e.H.ids cs)[j]? = (as.map (Value.int .u8))[j]? := by
                      intro j hj
                      rw [← b2, dens_eq, dens_eq, List.getElem?_map, List.getElem?_map, ← q2 j hj, Nat.zero_add]
                    have hcl : m + 1 ≤ (SV.dens e.H.ids cs).length := by
                      have h2 := hall m (by omega)
                      have h3 : (as.map (Value.int .u8))[m]? = some (Value.int .u8 (as[m]'(by omega))) := by
                        rw [List.getElem?_map, List.getElem?_eq_getElem (by omega)]; rfl
                      rw [h3] at h2
                      have := (List.getElem?_eq_some_iff.1 h2).1
                      omega
                    have hcell : ∀ (j : Nat) (y : Int), as[j]? = some y → w.cell? ((⟨b, 0, none⟩ : Addr).add j) = some (.int .u8 y) := by
                      intro j y hy
                      have hj : j < m + 1 := by
                        have := (List.getElem?_eq_some_iff.1 hy).1
                        omega
                      rw [addr_add, World.cell?, hb]
                      simp only [Option.isSome_none, Bool.false_eq_true, if_false, Nat.zero_add]
                      rw [List.getElem?_toArray, List.getElem?_append_left (by omega), hall j hj, List.getElem?_map, hy]
                      rfl
                    have hsh : w.shape? b = some (el, (SV.dens e.H.ids cs ++ tl).length) := by simp [World.shape?, hb]
                    have hrun := unsafeString_run (P := P) (w := w) t it o.type el hu c2 b _ hsh as (by intro h; simp [h] at hal) (by rw [hal, List.length_append]; omega) (by omega) hcell
                    have hu2 := upd_freeze (o := 0) hb (show as.length ≠ 0 by omega)
                    rw [hal] at hu2 hrun
                    refine ⟨opok_value (w := w) (R := fun x => x = _) (r := ⟨updL e.H k (b, some so'), .str s⟩) (w' := w.freeze ⟨b, 0, none⟩ (m + 1)) ?_ ?_ (ok_updL he.hok hk d3) (ext_same (ids_updL hk) (length_updL _ _ _)) (by simp [SV.ok]) hu2.os hu2.out rfl, length_updL _ _ _⟩
                    · rw [hex, Sem.run_bind]
                      simp only [SV.den, ids_of hk, h0]
                      have e1 : Int.ofNat (m + 1) = ((m + 1 : Nat) : Int) := rfl
                      rw [e1, hrun, Result.andThen_ok, Sem.run_pure, ← b1]
                    · rw [hAB, d2]
                      have := OwnL.upd' (A := A) (B := B ++ F) (by simpa using hAw) hu2
                      simpa using this
                  · trivial
                · trivial
              · trivial
            · trivial
          · trivial
        · trivial
      · trivial
  · trivial
end Go.Sx

/- The symbolic executor 'Sx': clear of a slice; functions without a Go body. -/
namespace Go.Sx
open Go

def clearSliceP (P : Program) (H : Hp) (t : TypeId) (x : SV) : PR :=
  match P.underlying t with
  | some (.slice e) => match x with
    | .sl k sz lo _ n cap => match n with
      | 0 => .det ⟨H, .tup []⟩ True
      | n + 1 => match zeroT P e with
        | some z => match (P.underlying e).isSome && (Nat.beq sz (P.cellsOf e) && Nat.beq z.length sz) with
          | true => match putAt H k (lo * sz) (List.replicate (n + 1) z).flatten with
            | some H' => .det ⟨H', .tup []⟩ (cap.v ≠ 0)
            | none => .no
          | false => .no
        | none => .no
    | _ => .no
  | _ => .no
theorem clearSlice_sound {P : Program} {e : Env} (he : e.Ok) {w : World} {F : List (Nat × Obj)} (hw : OwnL w (e.H.den ++ F)) {o : Oper} {t : TypeId} {ts : List TypeId} {x : SV} (hx : x.ok e.H.length e.H.ids)
    (hex : execOp e.a.eval o = (do pure (.value (← Builtin.clear_ (t :: ts).toArray o.type #[x.den e.H.ids])))) : PrOk P e.H F w e.a o (clearSliceP P e.H t x) := by
  unfold clearSliceP
  split
  · rename_i el hu
    split
    · rename_i k sz lo a n cap
      split
      · intro _
        refine ⟨opok_value (w := w) (R := fun x => x = _) (r := ⟨e.H, .tup []⟩) (w' := w) ?_ hw he.hok (Ext.refl _) (by simp [SV.ok, SV.oks]) rfl rfl rfl, rfl⟩
        rw [hex]
        cases a <;> simp [Builtin.clear_, underlying_run hu, SV.den, SV.dens]
      · rename_i n
        split
        · rename_i z hz
          split
          · rename_i hc
            simp only [Bool.and_eq_true] at hc
            obtain ⟨d, hd⟩ := Option.isSome_iff_exists.1 hc.1
            have c1 := Nat.eq_of_beq_eq_true hc.2.1
            have c2 := Nat.eq_of_beq_eq_true hc.2.2
            split
            · rename_i H' hput
              intro hcv
              simp only [SV.ok] at hx
              obtain ⟨h1, h2⟩ := hx.2.resolve_left hcv
              obtain ⟨zv, z1, z2, z3, z4⟩ := zeroT_sound hz e.H.length e.H.ids
              have hmem : ∀ x ∈ (List.replicate (n + 1) z).flatten, x ∈ z := by
                intro x hx
                obtain ⟨q, hq, hxq⟩ := List.mem_flatten.1 hx
                rw [(List.mem_replicate.1 hq).2] at hxq; exact hxq
              obtain ⟨w', p1, p2, p3, p4, p5, p6, p7⟩ := putAt_sound (P := P) he.hok hw hput ((oks_iff _ _ _).2 fun x hx => (oks_iff _ _ _).1 z3 x (hmem x hx)) (List.all_eq_true.2 fun x hx => List.all_eq_true.1 z4 x (hmem x hx))
              refine ⟨opok_value (w := w) (R := fun x => x = _) (r := ⟨H', .tup []⟩) (w' := w') ?_ p2 p3 p4 (by simp [SV.ok, SV.oks]) p6 p7 rfl, p5⟩
              rw [hex]
              have hzc : (Builtin.zeroCells zv.cells (n + 1)).toList = SV.dens e.H.ids (List.replicate (n + 1) z).flatten := by
                have hzs : zv.cells.size = sz := by rw [z2]; simp [dens_eq, c2]
                have := zeros_arr e.H.ids (n := n + 1) c2 (fun _ => z2)
                simp only [hzs] at this
                unfold Builtin.zeroCells
                rw [hzs, this]
              simp only [SV.den]
              rw [h2]
              simp [Builtin.clear_, underlying_run hu, z1, hzc, p1, SV.dens]
            · trivial
          · trivial
        · trivial
    · trivial
  · trivial
/-! ### Functions without a Go body -/
theorem opok_call {P : Program} {e : Env} {w w' : World} {F : List (Nat × Obj)} {o : Oper} {g : Nat} {args : List SV} (hrun : (execOp e.a.eval o).run P w = (callFunc g (SV.dens e.H.ids args).toArray).run P w) {r : PRes} (h : (callFunc g (SV.dens e.H.ids args).toArray).run P w = .ok (.value (r.v.den r.H.ids)) w')
    (h1 : OwnL w' (r.H.den ++ F)) (h2 : r.H.ok) (h3 : Ext e.H r.H) (h4 : r.v.ok r.H.length r.H.ids) (h5 : w'.os = w.os) (h6 : w'.output = w.output) {R : PRes → Prop} (hR : R r) : OpOk P e.H F w e.a o R :=
  opok_value (hrun.trans h) h1 h2 h3 h4 h5 h6 hR
def noEscapeP (H : Hp) (args : List SV) : PR := match args with | [x] => .det ⟨H, x⟩ True | _ => .no
/-- Function g is abi.NoEscape. -/
def IsNoEscape (P : Program) (g : Nat) : Prop := ∀ (args : Array Value) (w : World), (callFunc g args).run P w = ((do pure (.value (← Extern.AbiNoEscape.same args)) : Sem Next)).run P w
theorem noEscape_sound {P : Program} {e : Env} (he : e.Ok) {w : World} {F : List (Nat × Obj)} (hw : OwnL w (e.H.den ++ F)) {o : Oper} {g : Nat} {args : List SV} (hg : IsNoEscape P g) (hargs : SV.oks e.H.length e.H.ids args)
    (hrun : ∀ w, (execOp e.a.eval o).run P w = (callFunc g (SV.dens e.H.ids args).toArray).run P w) : PrOk P e.H F w e.a o (noEscapeP e.H args) := by
  unfold noEscapeP
  split
  · rename_i x
    intro _
    refine ⟨opok_call (w := w) (R := fun x => x = _) (r := ⟨e.H, x⟩) (w' := w) (hrun w) ?_ hw he.hok (Ext.refl _) (by simpa [SV.oks] using hargs) rfl rfl rfl, rfl⟩
    rw [hg, Sem.run_bind]
    have : (Extern.AbiNoEscape.same (SV.dens e.H.ids [x]).toArray).run P w = .ok (x.den e.H.ids) w := Lib.run_noEscape (P := P) w (x.den e.H.ids)
    rw [this, Result.andThen_ok, Sem.run_pure]
  · trivial
theorem digits_size : ∀ (n t : Nat) (acc : Array Value), (Extern.BytealgMakeNoZero.digits n t acc).size = acc.size + n
  | 0, _, _ => rfl
  | n + 1, t, acc => by simp [Extern.BytealgMakeNoZero.digits, digits_size n]; omega
def makeNoZeroP (H : Hp) (u8 : TypeId) (args : List SV) : PR :=
  match args with
  | [n] => match isInt n with
    | some (_, .i64, .ofNat a) => match Nat.ble a 1048576 with
      | true => .new (fun o => ⟨H ++ [(o.b, some (.row [] o.tl a o.x 1 (0, 0) 0 u8))], .sl H.length 1 0 (some ⟨o.b, 0, none⟩) a ⟨a, some o.x⟩⟩) []
      | false => .no
    | _ => .no
  | _ => .no
/-- Function g is bytealg.MakeNoZero. -/
def IsMakeNoZero (P : Program) (u8 : TypeId) (g : Nat) : Prop := ∃ (ps rs : Array TypeId) (t : TypeId), rs[0]? = some t ∧ P.underlying t = some (.slice u8) ∧ ∀ (args : Array Value) (w : World), (callFunc g args).run P w = ((do pure (.value (← Extern.BytealgMakeNoZero.makeNoZero ps rs args)) : Sem Next)).run P w
theorem makeNoZero_sound {P : Program} {e : Env} (he : e.Ok) {w : World} {F : List (Nat × Obj)} (hw : OwnL w (e.H.den ++ F)) {o : Oper} {g : Nat} {u8 : TypeId} {args : List SV} (hg : IsMakeNoZero P u8 g)
    (hrun : ∀ w, (execOp e.a.eval o).run P w = (callFunc g (SV.dens e.H.ids args).toArray).run P w) : PrOk P e.H F w e.a o (makeNoZeroP e.H u8 args) := by
  unfold makeNoZeroP
  split
  · rename_i n
    split
    · rename_i l a hn
      split
      · rename_i hle
        have hle := Nat.le_of_ble_eq_true hle
        refine ⟨fun _ => ?_, fun y => by simp⟩
        obtain ⟨ps, rs, t, r1, r2, r3⟩ := hg
        let x := w.tape w.drawn (.appendCap a 0 u8) % (2 ^ 63 - a)
        let bytes := w.tape (w.drawn + 1) (.extern "internal/bytealg.MakeNoZero.bytes" 0)
        let tl := (Extern.BytealgMakeNoZero.digits (a + x) bytes #[]).toList
        have htl : tl.length = a + x := by simp [tl, digits_size]
        refine new_obj he hw (.row [] tl a x 1 (0, 0) 0 u8) (.cells tl.toArray u8) ?_ (by simp [SO.den, SV.dens]) (w0 := { w with drawn := w.drawn + 1 + 1 }) rfl rfl rfl (v := .sl e.H.length 1 0 (some ⟨w.heap.size, 0, none⟩) a ⟨a, some x⟩) ?_ ?_ ⟨⟨w.heap.size, x, tl, (0, 0)⟩, rfl⟩
        · exact ⟨⟨trivial, rfl⟩, by rw [htl]; omega, Nat.le_refl _⟩
        · simp only [SV.ok, Cap.v]
          exact ⟨by omega, .inr ⟨by omega, by rw [ids_new]⟩⟩
        · rw [hrun, r3]
          have h1 : ¬ ((a : Int) < 0) := by omega
          have h2 : ¬ ((a : Int) > 2 ^ 48) := by omega
          have hd : SV.dens e.H.ids [n] = [.int .i64 (a : Int)] := by simp [SV.dens, isInt_den hn e.H.ids]
          rw [hd]
          have h3 : (⟨a, some x⟩ : Cap).v = a + x := by simp only [Cap.v]; omega
          simp only [SV.den, h3]
          have hdef : Extern.BytealgMakeNoZero.makeNoZero ps rs [Value.int .i64 (a : Int)].toArray = (do
              let some t := rs[0]? | stuck "bytealg.MakeNoZero: no result type"
              let .slice elem ← underlying t | stuck "bytealg.MakeNoZero: slice type expected"
              if (a : Int) < 0 || (a : Int) > 2 ^ 48 then runtimePanic (.error "makeslice: len out of range")
              let cap ← choose (.appendCap (a : Int).toNat 0 elem)
              askRoom cap
              let bytes ← choose (.extern "internal/bytealg.MakeNoZero.bytes" 0)
              let b ← newRow elem (Extern.BytealgMakeNoZero.digits cap bytes #[])
              pure (.slice (some b) (a : Int).toNat cap)) := rfl
          rw [hdef]
          have h5 : decide ((a : Int) > 2 ^ 48) = false := decide_eq_false h2
          have h4 : decide ((a : Int) < 0) = false := decide_eq_false h1
          have h6 : ∀ (n : Nat) (w : World), (askRoom n).run P w = .ok () w := by
            intro n w
            unfold askRoom
            split <;> simp [mark, Sem.run]
          simp only [r1, Sem.run_bind, underlying_run r2, Result.andThen_ok, h4, h5, Bool.or_self, Bool.false_eq_true, if_false, Sem.run_pure, choose, Sem.run, Question.forced, Question.cut, h6, Int.toNat_natCast, newRow, newObj]
          rfl
      · trivial
    · trivial
  · trivial
end Go.Sx

/- The symbolic executor 'Sx': the entry that a range over a map has come to. -/
namespace Go.Sx
open Go

def lastN : List Nat → Option Nat
  | [] => none
  | x :: r => match r with | [] => some x | _ :: _ => lastN r
def findE (n : Nat) : List (SV × SV × Nat) → Option (SV × SV × Nat)
  | [] => none
  | e :: r => match Nat.beq e.2.2 n with | true => some e | false => findE n r
def entryP (H : Hp) (x : SV) : PR :=
  match x with
  | .ptr k off => match Nat.beq off 0 with
    | false => .no
    | true => match nthO H k with
      | some (_, some (.iterc mk _ seen last)) => match mk with
        | none => .no
        | some m => match lastN seen with
          | none => .no
          | some n => match nthO H m with
            | some (_, some (.mapc es c)) => match Nat.beq c last with
              | false => .no
              | true => match findE n es with
                | some e => .det ⟨H, .tup [e.1, e.2.1]⟩ True
                | none => .no
            | _ => .no
      | _ => .no
  | _ => .no
theorem lastN_eq : ∀ l : List Nat, lastN l = l.getLast?
  | [] => rfl
  | [x] => rfl
  | x :: y :: r => by
    have := lastN_eq (y :: r)
    simp only [lastN] at this ⊢
    rw [this]; simp
theorem findE_mem {n : Nat} {e : SV × SV × Nat} : ∀ {l : List (SV × SV × Nat)}, findE n l = some e → e ∈ l
  | [], h => by simp [findE] at h
  | x :: r, h => by
    simp only [findE] at h
    split at h
    · simp only [Option.some.injEq] at h; subst h; simp
    · exact List.mem_cons_of_mem _ (findE_mem h)
theorem findE_find {ids : Nat → Nat} {n : Nat} {e : SV × SV × Nat} : ∀ {l : List (SV × SV × Nat)}, findE n l = some e → (l.map (entV ids)).find? (fun x => x.born == n) = some (entV ids e)
  | [], h => by simp [findE] at h
  | x :: r, h => by
    simp only [findE] at h
    split at h
    · rename_i hb
      simp only [Option.some.injEq] at h; subst h
      have hb := Nat.eq_of_beq_eq_true hb
      simp [entV, hb]
    · rename_i hb
      have hb := Nat.ne_of_beq_eq_false hb
      have hb' : (x.2.2 == n) = false := by simpa using hb
      rw [List.map_cons, List.find?_cons, findE_find h]
      simp only [entV, hb']
theorem entry_sound {P : Program} {e : Env} (he : e.Ok) {w : World} {F : List (Nat × Obj)} (hw : OwnL w (e.H.den ++ F)) {o : Oper} {x : SV}
    (hex : execOp e.a.eval o = (do pure (.value (← Instr.entry (x.den e.H.ids))))) : PrOk P e.H F w e.a o (entryP e.H x) := by
  unfold entryP
  split
  · rename_i k off
    split
    · trivial
    rename_i ho
    have ho := Nat.eq_of_beq_eq_true ho
    subst ho
    split
    · rename_i b mk since seen last hk
      have hit := own_iter hw hk
      split
      · trivial
      rename_i m
      split
      · trivial
      rename_i n hn
      split
      · rename_i bm es c hm
        have hmo := own_mapc hw hm
        split
        · trivial
        rename_i hc
        have hc := Nat.eq_of_beq_eq_true hc
        subst hc
        split
        · rename_i en hen
          have hes := he.hok m bm _ hm en (findE_mem hen)
          intro _
          refine ⟨opok_value (w := w) (R := fun x => x = _) (r := ⟨e.H, .tup [en.1, en.2.1]⟩) (w' := w) ?_ hw he.hok (Ext.refl _) (by simp only [SV.ok, SV.oks]; exact ⟨hes.1, hes.2, trivial⟩) rfl rfl rfl, rfl⟩
          rw [hex]
          rw [lastN_eq] at hn
          have hback : seen.toArray.back? = some n := by simp [hn]
          have hf : ((es.map (entV e.H.ids)).toArray.find? (fun x => x.born == n)) = some (entV e.H.ids en) := by
            rw [List.find?_toArray]; exact findE_find hen
          simp only [SV.den, SV.dens, ids_of hk]
          simp only [Instr.entry, Sem.run_bind, getObj, Sem.run, hit, Option.map_some, Result.andThen_ok, hmo, hback, bne_self_eq_false, Bool.false_eq_true, if_false, hf]
          simp [entV]
        · trivial
      · trivial
    · trivial
  · trivial
end Go.Sx
