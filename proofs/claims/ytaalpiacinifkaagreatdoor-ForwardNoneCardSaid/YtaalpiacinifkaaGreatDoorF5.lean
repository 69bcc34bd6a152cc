import Derived.Test.YtaalpiacinifkaaGreatDoorF4
/- Part of the proof that ForwardNone of law 21 returns true whatever it is called with. No condition. -/
set_option linter.all false
/- The executor 'Fx': calls of functions that have a contract. -/
namespace Go.Fx
open Go Go.Sx

theorem callFunc_enter {P : Program} {g n : Nat} {c : Code} (hc : enterQ P g = some (c, n)) (args : Array Value) (w : World) : (callFunc g args).run P w = .ok (.enter g args) w := by
  obtain ⟨f, _, _, _, h⟩ := enterQ_sound hc
  exact h args w
/-- A call, by what is known of the function. -/
theorem call_opok {P : Program} {e : Env} {w : World} {F : List (Nat × Obj)} {o : Oper} {g n : Nat} {c : Code} {args : List SV} (hc : enterQ P g = some (c, n))
    (hrun : ∀ w, (execOp e.a.eval o).run P w = (callFunc g (SV.dens e.H.ids args).toArray).run P w) {Qw : Value → World → Prop}
    (hcalls : ∀ cs, ∃ v w' fr, Qw v w' ∧ Steps P (lone (Frame.enter P g (SV.dens e.H.ids args).toArray .normal) cs w) (lone fr cs w') ∧ fr.leaving P w' (.returned v)) {R : PRes → Prop}
    (hQ : ∀ v w', Qw v w' → ∃ r : PRes, R r ∧ v = r.v.den r.H.ids ∧ OwnL w' (r.H.den ++ F) ∧ r.H.ok ∧ Ext e.H r.H ∧ r.v.ok r.H.length r.H.ids ∧ w'.os = w.os ∧ w'.output = w.output) : OpOk P e.H F w e.a o R := by
  intro b k cs ops i rest ho hw
  obtain ⟨v, w', fr, h1, h2, h3⟩ := hcalls (b.at e.a (.inRegion ops (i :: rest) :: k) :: cs)
  obtain ⟨r, q1, q2, q3, q4, q5, q6, q7, q8⟩ := hQ v w' h1
  refine ⟨r, w', q1, ?_, q3, q4, q5, q6, q7, q8⟩
  have s1 := step_enter (P := P) (b := b) (k := k) (cs := cs) (w := w) (w' := w) (rest := rest) ho hw ((hrun w).trans (callFunc_enter hc _ w))
  have s3 := step_leave_returned (c := b.at e.a (.inRegion ops (i :: rest) :: k)) (cs := cs) h3
  rw [fin_at ho, q2] at s3
  exact ((Steps.one s1).trans h2).trans (.one s3)
/-- A function's contract over the slower executor's memory: nothing of it is needed, and a value comes. -/
theorem fn_opok {P : Program} {e : Env} (he : e.Ok) {w : World} {F : List (Nat × Obj)} (hw : OwnL w (e.H.den ++ F)) {o : Oper} {g n : Nat} {c : Code} {args : List SV} (hc : enterQ P g = some (c, n))
    (hrun : ∀ w, (execOp e.a.eval o).run P w = (callFunc g (SV.dens e.H.ids args).toArray).run P w) {L0 : List (Nat × Obj)} {A B : List (Nat × Obj)} (hA : e.H.den = A ++ L0 ++ B) {v : SV}
    (hf : FnOk P g (SV.dens e.H.ids args).toArray L0 fun L x => x = v.den e.H.ids ∧ ∃ A' B', L = A' ++ L0 ++ B') (hv : v.ok e.H.length e.H.ids) {R : PRes → Prop} (hR : R ⟨e.H, v⟩) : OpOk P e.H F w e.a o R := by
  have hw2 : OwnL w (L0 ++ (A ++ B ++ F)) := by
    refine hw.perm ?_
    rw [hA]
    have := List.perm_append_comm (l₁ := A) (l₂ := L0)
    simpa [List.append_assoc] using (this.append_right (B ++ F))
  refine call_opok (Qw := fun x w' => (x = v.den e.H.ids ∧ ∃ A' B', OwnL w' (A' ++ L0 ++ B' ++ (A ++ B ++ F))) ∧ w'.os = w.os ∧ w'.output = w.output) hc hrun (fun cs => ?_) (fun x w' hx => ?_)
  · obtain ⟨x, w', fr, L', ⟨h1, A', B', h2⟩, h3, h4, h5, h6, _, h8⟩ := hf w _ hw2 cs
    subst h2
    exact ⟨x, w', fr, ⟨⟨h1, A', B', h3⟩, h4, h5⟩, h6, h8⟩
  · obtain ⟨⟨h1, A', B', h2⟩, h3, h4⟩ := hx
    refine ⟨⟨e.H, v⟩, hR, h1, ?_, he.hok, Ext.refl _, hv, h3, h4⟩
    have h5 : OwnL w' (L0 ++ (A ++ B ++ F)) := by
      refine h2.sublist ?_
      refine List.Sublist.append_right ?_ _
      rw [List.append_assoc]
      exact (List.sublist_append_left L0 B').trans (List.sublist_append_right A' _)
    refine h5.perm ?_
    rw [hA]
    have := (List.perm_append_comm (l₁ := A) (l₂ := L0)).symm
    simpa [List.append_assoc] using (this.append_right (B ++ F))
end Go.Fx

/- The executor 'Fx': what is told from outside is what the machine does. -/
namespace Go.Fx
open Go Go.Sx
/-- Function g is slices.Sorted, at whole numbers, called with the keys of a map. -/
def SortedOk (L : FCfg) : Prop := ∀ (e : Env) (o : Oper) (F : List (Nat × Obj)) (w : World) (g : Nat) (args : List SV), e.Ok → OwnL w (e.H.den ++ F) → extOf g L.ext = 4 → SV.oks e.H.length e.H.ids args →
  (∀ w, (execOp e.a.eval o).run L.P w = (callFunc g (SV.dens e.H.ids args).toArray).run L.P w) → PrOk L.P e.H F w e.a o (sortedP L e.H args)
def needL (L : FCfg) (need : Bool) : List (Nat × Obj) := match need with | true => [(0, Obj.cells (L.glob0.map (Value.int .u32)).toArray L.glob0t)] | false => []
structure Facts (L : FCfg) : Prop where
  noEscape : ∀ g, extOf g L.ext = 1 → IsNoEscape L.P g
  makeNoZero : ∀ g, extOf g L.ext = 2 → IsMakeNoZero L.P L.u8t g
  sorted : SortedOk L
  consts : ∀ g, 10 ≤ extOf g L.ext → ∀ need c v, L.consts[extOf g L.ext - 10]? = some (need, c) → scalV c = some v → (∃ code n, enterQ L.P g = some (code, n)) ∧
    FnOk L.P g #[] (needL L need) fun M x => x = v.den (fun _ => 0) ∧ ∃ A' B', M = A' ++ needL L need ++ B'
theorem builtin_ex {ρ : Operand → Value} {o : Oper} {bi : Builtin} {args : Array Operand} {ts : Array TypeId} (ho : o.op = .call ⟨.builtin bi, args, ts⟩) {vs : Array Value} (hv : args.map ρ = vs) :
    execOp ρ o = builtin bi ts o.type (args.map fun | .const _ => true | _ => false) vs := by
  obtain ⟨dst, op, type, pos, after, guard⟩ := o
  simp only at ho
  subst ho
  subst hv
  rfl
theorem primOk {L : FCfg} (hF : Facts L) : PrimOk (LC L (sprim L)) := by
  intro e o F w he hgl hx hw
  have hgl : e.gl = L.globs := hgl
  show PrOk L.P e.H F w e.a o (sprim L e.H e.fr o.op)
  unfold sprim
  cases ho : o.op <;> (try simp only) <;> (try exact trivial)
  case call c =>
    obtain ⟨callee, args, ts⟩ := c
    rw [ho] at hx
    have ext : ∀ g as, ceval L.globs e.H e.fr (.call ⟨callee, args, ts⟩) = some (g, as) → PrOk L.P e.H F w e.a o (sext L e.H (extOf g L.ext) as) := by
      intro g as hce
      rw [← hgl, ← ho] at hce
      have hs := ceval_sound (P := L.P) he hce (by rw [ho]; exact hx)
      unfold sext
      split
      · rename_i hn; exact noEscape_sound he hw (hF.noEscape g hn) hs.2 hs.1
      · rename_i hn; exact makeNoZero_sound he hw (hF.makeNoZero g hn) hs.1
      · rename_i hn; exact hF.sorted e o F w g as he hw hn hs.2 hs.1
      · split
        · rename_i hle
          have hle := nble hle
          unfold sconst
          split
          · split
            · rename_i need cc hc
              split
              · rename_i v hv
                intro hneed
                obtain ⟨⟨code, n, hcode⟩, hfn⟩ := hF.consts g hle need cc v hc hv
                have hvd : ∀ ids, v.den ids = v.den (fun _ => 0) ∧ v.ok e.H.length e.H.ids := by
                  intro ids
                  unfold scalV at hv
                  split at hv
                  · rename_i l k x; simp only [Option.some.injEq] at hv; subst hv; cases l <;> exact ⟨rfl, trivial⟩
                  · rename_i l b; simp only [Option.some.injEq] at hv; subst hv; cases l <;> exact ⟨rfl, trivial⟩
                  · simp only [Option.some.injEq] at hv; subst hv; exact ⟨rfl, trivial⟩
                  · simp at hv
                have hsplit : ∃ A B, e.H.den = A ++ (needL L need) ++ B := by
                  cases need with
                  | true => exact hneed rfl
                  | false => exact ⟨e.H.den, [], by simp [needL]⟩
                obtain ⟨A, B, hAB⟩ := hsplit
                refine ⟨fn_opok he hw hcode hs.1 hAB (v := v) ?_ (hvd e.H.ids).2 (R := fun r => r = _) rfl, rfl⟩
                exact hfn.mono fun M x hx => ⟨by rw [hx.1]; exact ((hvd e.H.ids).1).symm, hx.2⟩
              · trivial
            · trivial
          · trivial
        · trivial
    cases callee with
    | builtin bi =>
      simp only
      cases hl : opvs L.globs e.H e.fr args.toList with
      | none => trivial
      | some l =>
        simp only
        have hx' : inX e.X args.toList := by simpa [Op.operands, Call.operands] using hx
        rw [← hgl] at hl
        have h1 := opvs_sound he hl hx'
        have e1 : args.map e.a.eval = (SV.dens e.H.ids l).toArray := Array.ext' (by rw [Array.toList_map, h1.1])
        have hex := builtin_ex ho e1
        unfold sbuiltin
        split
        · split
          · rename_i t r hts
            have hts' : ts = (t :: r).toArray := by rw [← hts]
            split
            · rename_i s x
              have hs : s.ok e.H.length e.H.ids := h1.2.1
              have hxx : x.ok e.H.length e.H.ids := h1.2.2.1
              have hex' : execOp e.a.eval o = (do pure (.value (← Builtin.append_ (t :: r).toArray o.type #[s.den e.H.ids, x.den e.H.ids]))) := by
                rw [hex, hts']; rfl
              unfold sappend
              split
              · exact open_sound he hw hs hxx hex'
              · rename_i hne
                exact append_sound he hw hs hxx hex'
            · trivial
          · trivial
        · split
          · rename_i t r hts
            have hts' : ts = (t :: r).toArray := by rw [← hts]
            split
            · rename_i d s
              refine copy_sound he hw h1.2.1 h1.2.2.1 (ts := r) ?_
              rw [hex, hts']; rfl
            · trivial
          · trivial
        · split
          · rename_i t r hts
            have hts' : ts = (t :: r).toArray := by rw [← hts]
            split
            · rename_i m
              have hex' : execOp e.a.eval o = (do pure (.value (← Builtin.clear_ (t :: r).toArray o.type #[m.den e.H.ids]))) := by
                rw [hex, hts']; rfl
              unfold sclear
              split
              · exact clearSlice_sound he hw h1.2.1 hex'
              · split
                · rename_i d hd; exact clearMap_sound he hw hd hex'
                · trivial
            · trivial
          · trivial
        · split
          · rename_i t r hts
            have hts' : ts = (t :: r).toArray := by rw [← hts]
            split
            · rename_i m k
              refine del_sound he hw h1.2.1 h1.2.2.1 (ts := r) ?_
              rw [hex, hts']; rfl
            · trivial
          · trivial
        · split
          · rename_i x
            refine sliceData_sound he hw h1.2.1 (ts := ts) ?_
            rw [hex]; rfl
          · trivial
        · split
          · rename_i t it hts
            have hts' : ts = [t, it].toArray := by rw [← hts]
            split
            · rename_i x n
              refine unsafeString_sound he hw h1.2.1 (it := it) ?_
              rw [hex, hts']; rfl
            · trivial
          · trivial
        · trivial
    | value x =>
      simp only
      cases hce : ceval L.globs e.H e.fr (.call ⟨.value x, args, ts⟩) with
      | none => trivial
      | some p => obtain ⟨g, as⟩ := p; exact ext g as hce
    | invoke r m =>
      simp only
      cases hce : ceval L.globs e.H e.fr (.call ⟨.invoke r m, args, ts⟩) with
      | none => trivial
      | some p => obtain ⟨g, as⟩ := p; exact ext g as hce
  case convert s d x =>
    rw [ho] at hx
    cases ha : opv L.globs e.H e.fr x with
    | none => trivial
    | some a =>
      simp only
      rw [← hgl] at ha
      have h1 := opv_sound he ha (by simpa [Op.operands] using hx)
      have hex : execOp e.a.eval o = (do pure (.value (← convert s d (a.den e.H.ids)))) := by
        obtain ⟨dst, op, type, pos, after, guard⟩ := o
        simp only at ho
        subst ho
        rw [← h1.1]; rfl
      unfold sconv
      split
      · exact ptrConv_sound he hw hex
      · exact toStr_sound he hw h1.2 hex
  case makeSlice t l c =>
    rw [ho] at hx
    cases ha : opv L.globs e.H e.fr l with
    | none => trivial
    | some a =>
      cases hb : opv L.globs e.H e.fr c with
      | none => trivial
      | some b =>
        simp only
        rw [← hgl] at ha hb
        have h1 := opv_sound he ha (fun t ht => hx t (by simp [Op.operands, opTmps] at ht ⊢; cases l <;> simp_all [opTmps]))
        have h2 := opv_sound he hb (fun t ht => hx t (by simp [Op.operands, opTmps] at ht ⊢; cases l <;> cases c <;> simp_all [opTmps]))
        refine makeSlice_sound he hw ?_
        obtain ⟨dst, op, type, pos, after, guard⟩ := o
        simp only at ho
        subst ho
        rw [← h1.1, ← h2.1]; rfl
  case mapUpdate t m k v =>
    rw [ho] at hx
    cases ha : opv L.globs e.H e.fr m with
    | none => trivial
    | some a =>
      cases hb : opv L.globs e.H e.fr k with
      | none => trivial
      | some b =>
        cases hc : opv L.globs e.H e.fr v with
        | none => trivial
        | some c =>
          simp only
          rw [← hgl] at ha hb hc
          have h1 := opv_sound he ha (fun t ht => hx t (by simp [Op.operands, opTmps] at ht ⊢; cases m <;> simp_all [opTmps]))
          have h2 := opv_sound he hb (fun t ht => hx t (by simp [Op.operands, opTmps] at ht ⊢; cases m <;> cases k <;> simp_all [opTmps]))
          have h3 := opv_sound he hc (fun t ht => hx t (by simp [Op.operands, opTmps] at ht ⊢; cases m <;> cases k <;> cases v <;> simp_all [opTmps]))
          exact mapUpd_sound he hw ho h1 h2 h3
  case range t x =>
    rw [ho] at hx
    cases ha : opv L.globs e.H e.fr x with
    | none => trivial
    | some a =>
      simp only
      rw [← hgl] at ha
      have h1 := opv_sound he ha (by simpa [Op.operands] using hx)
      refine range_sound he hw ?_
      obtain ⟨dst, op, type, pos, after, guard⟩ := o
      simp only at ho
      subst ho
      rw [← h1.1]; rfl
  case next x s =>
    rw [ho] at hx
    cases s with
    | true => trivial
    | false =>
      simp only
      cases ha : opv L.globs e.H e.fr x with
      | none => trivial
      | some a =>
        simp only
        rw [← hgl] at ha
        have h1 := opv_sound he ha (by simpa [Op.operands] using hx)
        refine next_sound he hw h1.2 (ty := o.type) ?_
        obtain ⟨dst, op, type, pos, after, guard⟩ := o
        simp only at ho
        subst ho
        rw [← h1.1]; rfl
  case entry x =>
    rw [ho] at hx
    cases ha : opv L.globs e.H e.fr x with
    | none => trivial
    | some a =>
      simp only
      rw [← hgl] at ha
      have h1 := opv_sound he ha (by simpa [Op.operands] using hx)
      refine entry_sound he hw ?_
      obtain ⟨dst, op, type, pos, after, guard⟩ := o
      simp only at ho
      subst ho
      rw [← h1.1]; rfl
end Go.Fx
