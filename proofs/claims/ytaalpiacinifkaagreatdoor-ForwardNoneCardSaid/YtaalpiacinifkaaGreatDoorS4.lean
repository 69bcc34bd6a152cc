import Derived.Test.YtaalpiacinifkaaGreatDoorS3
import Derived.Scope
/- Part of the proof that ForwardNone of law 21 returns true whatever it is called with. No condition. -/
set_option linter.all false
/- The symbolic executor 'Sx': regions whose order is drawn: its steps. -/
namespace Go.Sx
open Go

theorem dreg_state {C : Cfg} {os : Os} {out : Array (Nat × ByteArray)} {cs : List Frame} {F : List (Nat × Obj)} {m : Machine} {H : Hp} {fn nt : Nat} {fr : Fr} {ops : Array Oper} {r : List Nat} {dec : List (Nat × Bool)} {k : List SItem} {stk : List SF}
    (h : MIs C.P os out cs F ⟨H, ⟨fn, nt, fr, .dreg ops r dec :: k⟩, stk⟩ m) :
    ∃ tmps l k' E1 cs1 E2 w, m = lone ((bF fn).at ⟨tmps, []⟩ (.inRegion ops l :: k')) (cs1 ++ cs) w ∧ IRels k k' ∧ DecOk H.ids fr dec ∧ DS C (E2 ++ F) H nt fr ops r l tmps E1 w ∧ StkIs C.P H stk cs1 E2 ∧ w.os = os ∧ w.output = out := by
  obtain ⟨tmps, todo, E1, cs1, E2, w, rfl, ⟨h1, h2, h3⟩, hst, hw, hok, hos, hout⟩ := h.is
  obtain ⟨l, k', rfl, hk, hd, hdr, hq⟩ := h3
  exact ⟨tmps, l, k', E1, cs1, E2, w, rfl, hk, hd, ⟨h1, h2, hok, hdr, hq, hw⟩, hst, hos, hout⟩
theorem dregW_state {C : Cfg} {os : Os} {out : Array (Nat × ByteArray)} {cs : List Frame} {F : List (Nat × Obj)} {H : Hp} {fn nt : Nat} {fr : Fr} {ops : Array Oper} {r : List Nat} {dec : List (Nat × Bool)} {k : List SItem} {stk : List SF}
    {tmps : Array Value} {l : List Nat} {k' : List Item} {E1 : List (Nat × Obj)} {cs1 : List Frame} {E2 : List (Nat × Obj)} {w : World} (h1 : IRels k k') (h2 : DecOk H.ids fr dec) (h3 : DS C (E2 ++ F) H nt fr ops r l tmps E1 w) (h4 : StkIs C.P H stk cs1 E2) (h5 : w.os = os) (h6 : w.output = out) :
    MIs C.P os out cs F ⟨H, ⟨fn, nt, fr, .dreg ops r dec :: k⟩, stk⟩ (lone ((bF fn).at ⟨tmps, []⟩ (.inRegion ops l :: k')) (cs1 ++ cs) w) :=
  ⟨⟨tmps, _, E1, cs1, E2, w, rfl, ⟨h3.size, h3.frok, l, k', rfl, h1, h2, h3.dr, h3.q⟩, h4, h3.own, h3.hok, h5, h6⟩⟩
theorem wantQ {ops : Array Oper} {ids : Nat → Nat} {fr : Fr} {dec : List (Nat × Bool)} {o : Oper} {g : Bool} (h : guardQ ops.toList fr dec o = some g) {tmps : Array Value} (hon : FrOn ids fr (· ∈ readsOf ops.toList o) tmps) (hd : DecOk ids fr dec) :
    Region.wanted o (yielded ops tmps) = g := guardQ_sound h hon (fun _ ht => ht) hd
/-- A quiet one, worked out where it stands. -/
theorem quiet_of {C : Cfg} {H : Hp} (hok : H.ok) {nt : Nat} {fr : Fr} (hfr : FrOk H.length H.ids fr) {ops : Array Oper} {x : Nat} {o : Oper} (ho : ops.toList[x]? = some o) {d : Nat} (hd : o.dst = some d) (hdn : d < nt) {dec : List (Nat × Bool)} (hdec : DecOk H.ids fr dec) {v : SV} {fr' : Fr} (hf : fr'.get d = some v)
    (htr : ∀ tm, FrOn H.ids fr' (· ∈ readsOf ops.toList o) tm → FrOn H.ids fr (· ∈ readsOf ops.toList o) tm)
    (h : (guardQ ops.toList fr dec o = some false ∧ v = .undef) ∨ (guardQ ops.toList fr dec o = some true ∧ ∃ hm vc, qeval C.P C.globs H fr dec hm o.op = some (v, vc) ∧ vc)) : Quiet C.P ops H fr' nt x := by
  refine ⟨o, d, v, ho, hd, hdn, hf, ?_⟩
  rcases h with ⟨h1, rfl⟩ | ⟨h1, hm, vc, h2, h3⟩
  · exact .inl ⟨undef_den _, fun a ha => wantQ h1 (htr _ ha) hdec⟩
  · refine .inr fun a w F ha hw => ⟨wantQ h1 (htr _ ha) hdec, ?_⟩
    have he : (⟨C.globs, H, fr, a, (· ∈ readsOf ops.toList o)⟩ : Env).Ok := ⟨hok, hfr, htr _ ha⟩
    exact (qeval_sound he hw h2 h3 (fun t ht => List.mem_append_left _ ht) hdec).1
/-- What is behind a loud one: the quiet ones that may not have come are the same. -/
theorem recheck_sound {C : Cfg} {H : Hp} (hok : H.ok) {nt : Nat} {fr : Fr} (hfr : FrOk H.length H.ids fr) {ops : Array Oper} {dec : List (Nat × Bool)} (hdec : DecOk H.ids fr dec) {x : Nat} {deps r : List Nat} : ∀ {rest : List Oper} {j : Nat} {vc : Prop} {eqs : List (SV × SV)}, recheck C.P C.globs H nt fr ops.toList dec x deps r j rest = some (vc, eqs) → vc → eqsOk eqs →
      ∀ i o, rest[i]? = some o → ops.toList[j + i]? = some o → j + i ∉ deps → j + i ∉ x :: r → clsOf C.P o = 0 → Quiet C.P ops H fr nt (j + i)
  | [], j, vc, eqs, _, _, _, i, o, h, _, _, _, _ => by simp at h
  | q :: rest, j, vc, eqs, h, hvc, heqs, i, o, hi, ho, hd, hr, hc => by
    simp only [recheck] at h
    split at h
    · simp at h
    · rename_i vc1 eqs1 hrec
      have tail : vc1 → eqsOk eqs1 → ∀ i', i = i' + 1 → Quiet C.P ops H fr nt (j + i) := by
        intro hv1 he1 i' hi'
        subst hi'
        have := recheck_sound hok hfr hdec hrec hv1 he1 i' o (by simpa using hi) (by rw [show j + 1 + i' = j + (i' + 1) by omega]; exact ho) (by rw [show j + 1 + i' = j + (i' + 1) by omega]; exact hd) (by rw [show j + 1 + i' = j + (i' + 1) by omega]; exact hr) hc
        rw [show j + 1 + i' = j + (i' + 1) by omega] at this
        exact this
      split at h
      · rename_i hb
        simp only [Option.some.injEq, Prod.mk.injEq] at h; obtain ⟨rfl, rfl⟩ := h
        cases i with
        | zero =>
          exfalso
          simp only [Bool.or_eq_true] at hb
          rcases hb with hb | hb
          · exact hd (hasB_iff.1 hb)
          · exact hr (hasB_iff.1 hb)
        | succ i' => exact tail hvc heqs i' rfl
      · split at h
        · rename_i hcb
          simp only [Option.some.injEq, Prod.mk.injEq] at h; obtain ⟨rfl, rfl⟩ := h
          cases i with
          | zero =>
            simp only [List.getElem?_cons_zero, Option.some.injEq] at hi; subst hi
            rw [hc] at hcb; simp at hcb
          | succ i' => exact tail hvc heqs i' rfl
        · split at h
          · simp at h
          · rename_i t hdst
            split at h
            · simp at h
            rename_i hle
            split at h
            · simp at h
            · rename_i v' hv'
              split at h
              · simp at h
              · rename_i hg
                split at h
                · simp only [Option.some.injEq, Prod.mk.injEq] at h; obtain ⟨rfl, rfl⟩ := h
                  cases i with
                  | zero =>
                    simp only [List.getElem?_cons_zero, Option.some.injEq] at hi; subst hi
                    exact quiet_of hok hfr ho hdst (Nat.le_of_ble_eq_true hle) hdec hv' (fun _ h => h) (.inl ⟨hg, rfl⟩)
                  | succ i' => exact tail hvc heqs i' rfl
                · simp at h
              · rename_i hg
                split at h
                · rename_i v vc2 hq
                  simp only [Option.some.injEq, Prod.mk.injEq] at h; obtain ⟨rfl, rfl⟩ := h
                  cases i with
                  | zero =>
                    simp only [List.getElem?_cons_zero, Option.some.injEq] at hi; subst hi
                    have e : v = v' := heqs (v, v') (by simp)
                    subst e
                    exact quiet_of hok hfr ho hdst (Nat.le_of_ble_eq_true hle) hdec hv' (fun _ h => h) (.inr ⟨hg, 0, vc2, hq, hvc.1⟩)
                  | succ i' => exact tail hvc.2 (fun p hp => heqs p (by simp [hp])) i' rfl
                · simp at h
/-- A loud one that changed the memory has come. -/
theorem dreg_loud {C : Cfg} {os : Os} {out : Array (Nat × ByteArray)} {cs : List Frame} {F : List (Nat × Obj)} {H : Hp} {fn nt : Nat} {fr : Fr} {ops : Array Oper} {x : Nat} {r : List Nat} {dec : List (Nat × Bool)} {k : List SItem} {stk : List SF} {f' : SF} {vc : Prop} {eqs : List (SV × SV)} {v : SV} {o : Oper}
    (ho : ops.toList[x]? = some o) (h : resume C H ⟨fn, nt, fr, .dreg ops (x :: r) dec :: k⟩ v = some (f', vc, eqs)) (hvc : vc) (heqs : eqsOk eqs) {tmps : Array Value} {l : List Nat} {k' : List Item} {E1 E2 : List (Nat × Obj)} {cs1 : List Frame} {w : World}
    (hsz : tmps.size = nt) (hfr : FrOk H.length H.ids fr) (hv : v.ok H.length H.ids) (hk : IRels k k') (hdec : DecOk H.ids fr dec) (hdr : Dr C.P ops.toList (x :: r) H.ids fr (x :: l) tmps E1) (hok : H.ok) (hst : StkIs C.P H stk cs1 E2) (hw : OwnL w (H.den ++ (E1 ++ (E2 ++ F)))) (hos : w.os = os) (hout : w.output = out) :
    putB nt o.dst = true ∧ MIs C.P os out cs F ⟨H, f', stk⟩ (lone ((bF fn).at ((⟨tmps, []⟩ : Act).put o.dst (v.den H.ids)) (.inRegion ops l :: k')) (cs1 ++ cs) w) := by
  simp only [resume] at h
  rw [nthO_eq, ho] at h
  simp only at h
  split at h
  · rename_i hb
    refine ⟨hb, ?_⟩
    split at h
    · rename_i vc1 eqs1 hrec
      simp only [Option.some.injEq, Prod.mk.injEq] at h
      obtain ⟨rfl, rfl, rfl⟩ := h
      have hfr' := frok_put (nt := nt) hfr (d := o.dst) hv
      have hdr' := hdr.loud hsz ho hb v
      have hnl := List.nodup_cons.1 hdr.nodup
      have hsz' : ((⟨tmps, []⟩ : Act).put o.dst (v.den H.ids)).tmps.size = nt := by cases o.dst <;> simp [Act.put, hsz]
      rw [act_put]
      refine dregW_state hk (decok_put hdec) ⟨hsz', hfr', hok, hdr', fun i hi hir => ?_, hw⟩ hst hos hout
      have hix : i ≠ x := fun e => hnl.1 (e ▸ hi)
      obtain ⟨o', ho'⟩ : ∃ o', ops.toList[i]? = some o' := ⟨_, List.getElem?_eq_getElem (hdr.lt i (by simp [hi]))⟩
      have := recheck_sound hok hfr' (decok_put hdec) hrec hvc heqs i o' ho' (by rw [Nat.zero_add]; exact ho') (by rw [Nat.zero_add]; exact fun hm => hdr.lin.1 o ho i hm (by simp [hi])) (by simp [hix, hir]) (hdr.pend i o' (by simp [hi]) (by simp [hix, hir]) ho')
      rw [Nat.zero_add] at this; exact this
    · simp at h
  · simp at h
end Go.Sx

/- The symbolic executor 'Sx': regions whose order is drawn: a step. -/
namespace Go.Sx
open Go

theorem run_assign {P : Program} {ρ : Operand → Value} {o : Oper} {y : Operand} (e : o.op = .assign y) (w : World) : (execOp ρ o).run P w = .ok (.value (ρ y)) w := by
  obtain ⟨dst, op, type, pos, after, guard⟩ := o
  simp only at e; subst e
  simp [execOp]
theorem le_foldr {t : Nat} : ∀ {l : List Nat}, t ∈ l → t ≤ l.foldr max 0
  | x :: r, h => by
    simp only [List.foldr_cons]
    rcases List.mem_cons.1 h with rfl | h
    · exact Nat.le_max_left _ _
    · exact Nat.le_trans (le_foldr h) (Nat.le_max_right _ _)
section
variable {C : Cfg} {os : Os} {out : Array (Nat × ByteArray)} {cs : List Frame} {F : List (Nat × Obj)} {m : Machine} {H : Hp} {fn nt : Nat} {fr : Fr} {ops : Array Oper} {x : Nat} {r : List Nat} {dec : List (Nat × Bool)} {k : List SItem} {stk : List SF}

theorem stepDreg_go {hs hs' : List Hint} {st' : St} {vc : Prop} {eqs : List (SV × SV)}
    (h : stepDreg C H fn nt fr ops x r dec k stk hs = .go st' hs' vc eqs) (hvc : vc) (heqs : eqsOk eqs) (hm : MIs C.P os out cs F ⟨H, ⟨fn, nt, fr, .dreg ops (x :: r) dec :: k⟩, stk⟩ m) : Goes C.P os out cs F m st' := by
  obtain ⟨tmps, l, k', E1, cs1, E2, w, rfl, hk, hd, hds, hst, hos, hout⟩ := dreg_state hm
  unfold stepDreg at h
  split at h
  · simp at h
  rename_i o hox
  have ho : ops.toList[x]? = some o := by rw [← nthO_eq]; exact hox
  have hoh := ord_head hds.dr.ord ho
  split at h
  · simp at h
  rename_i hb
  split at h
  · -- the guard is open
    split at h
    · rename_i t y hs1 vc1 hdc
      simp only [SR.go.injEq] at h
      obtain ⟨rfl, rfl, rfl, rfl⟩ := h
      exact ⟨_, Steps.refl _ _, dregW_state hk (decide1_sound hdc hvc hd) hds hst hos hout⟩
    · simp at h
  rename_i wnt hg
  split at h
  · -- quiet
    rename_i hcb
    have hc := Nat.eq_of_beq_eq_true hcb
    split at h
    · simp at h
    rename_i hdo
    obtain ⟨d, hdst⟩ := Option.isSome_iff_exists.1 hdo
    have hs := ssa_at hds.dr.ssa ho hdst
    rw [hdst] at hb
    have htr : ∀ (v : SV) tm, FrOn H.ids (putD fr nt (some d) v) (· ∈ readsOf ops.toList o) tm → FrOn H.ids fr (· ∈ readsOf ops.toList o) tm := fun v tm => fron_put hb hs.self
    split at h
    · simp only [SR.go.injEq] at h
      obtain ⟨rfl, rfl, rfl, rfl⟩ := h
      refine ⟨_, Steps.refl _ _, ?_⟩
      have hq : Quiet C.P ops H (putD fr nt (some d) .undef) nt x := quiet_of hds.hok hds.frok ho hdst (putB_lt hb) hd (by rw [putD_get hb, if_pos rfl]) (htr _) (.inl ⟨hg, rfl⟩)
      have := hds.quiet ho hc hdst hb (by simp [SV.ok]) hq
      rw [hdst]
      exact dregW_state hk (decok_put hd) this hst hos hout
    · split at h
      · rename_i v vc1 hqe
        simp only [SR.go.injEq] at h
        obtain ⟨rfl, rfl, rfl, rfl⟩ := h
        refine ⟨_, Steps.refl _ _, ?_⟩
        have hq : Quiet C.P ops H (putD fr nt (some d) v) nt x := quiet_of hds.hok hds.frok ho hdst (putB_lt hb) hd (by rw [putD_get hb, if_pos rfl]) (htr _) (.inr ⟨hg, 0, _, hqe, hvc⟩)
        have hxl : x ∈ l := hds.dr.inl ho (by rw [hc]; simp)
        have hv : v.ok H.length H.ids := by
          let tm : Array Value := (Array.range ((readsOf ops.toList o).foldr max 0 + 1)).map fun t => match fr.get t with | some sv => sv.den H.ids | none => undef
          have he : (⟨C.globs, H, fr, ⟨tm, []⟩, (· ∈ readsOf ops.toList o)⟩ : Env).Ok := ⟨hds.hok, hds.frok, fun t sv ht hf => by
            have hlt : t < (readsOf ops.toList o).foldr max 0 + 1 := Nat.lt_succ_of_le (le_foldr ht)
            simp only at hf
            simp only [tm]
            rw [Array.getElem?_map, Array.getElem?_range]
            simp [hlt, hf]⟩
          exact (qeval_sound he hds.own hqe hvc (fun t ht => List.mem_append_left _ ht) hd).2
        have := hds.quiet ho hc hdst hb hv hq
        rw [hdst]
        exact dregW_state hk (decok_put hd) this hst hos hout
      · simp at h
  · -- loud
    rename_i hcb
    have hc0 : clsOf C.P o ≠ 0 := fun e => by rw [e] at hcb; simp at hcb
    split at h
    · simp at h
    rename_i hearly
    have hX : inX (· ∈ readsOf ops.toList o) o.op.operands.toList := fun t ht => List.mem_append_left _ ht
    split at h
    · -- it isn't meant to be carried out
      have hgn : o.guard ≠ none := fun e => by
        unfold guardQ at hg
        rw [e] at hg
        simp at hg
      have hxl : x ∈ l := hds.dr.inl' ho hgn
      obtain ⟨l', tmps', E', w', hds', ho1, ho2, hsteps⟩ := hds.advance (hoh.2.1 hc0) hearly (bF fn) k' (cs1 ++ cs) hxl
      have hos' := ho1.trans hos
      have hout' := ho2.trans hout
      have hon := hds'.reads ho hoh.1
      have hwant := wantQ hg hon hd
      simp only [SR.go.injEq] at h
      obtain ⟨rfl, rfl, rfl, rfl⟩ := h
      have := hds'.loud ho hb (Ext.refl H) ⟨[], by simp⟩ hds.hok hds'.own (v := .undef) (by simp [SV.ok])
      refine ⟨_, hsteps.trans (.one (step_unwanted (getL ho) hwant)), ?_⟩
      rw [act_put, ← undef_den H.ids]
      exact dregW_state hk (decok_put hd) this hst hos' hout'
    split at h
    · split at h <;> simp at h
    rename_i hcb1
    have hc1 : clsOf C.P o ≠ 1 := fun e => by rw [e] at hcb1; simp at hcb1
    have hxl : x ∈ l := hds.dr.inl ho hc1
    obtain ⟨l', tmps', E', w', hds', ho1, ho2, hsteps⟩ := hds.advance (hoh.2.1 hc0) hearly (bF fn) k' (cs1 ++ cs) hxl
    have hos' := ho1.trans hos
    have hout' := ho2.trans hout
    have hon := hds'.reads ho hoh.1
    have hwant := wantQ hg hon hd
    have he := mkEnv_ok (C := C) hds.hok hds.frok hon
    split at h
    · rename_i y hop
      split at h
      · rename_i v hv
        simp only [SR.go.injEq] at h
        obtain ⟨rfl, rfl, rfl, rfl⟩ := h
        have hov := opv_sound he hv (fun t ht => hX t (by rw [hop]; simpa [Op.operands] using ht))
        have := hds'.loud ho hb (Ext.refl H) ⟨[], by simp⟩ hds.hok hds'.own hov.2
        refine ⟨_, hsteps.trans (.one (step_value (getL ho) hwant (run_assign hop w'))), ?_⟩
        rw [act_put]
        have e1 := hov.1
        simp only [mkEnv] at e1
        rw [e1]
        exact dregW_state hk (decok_put hd) this hst hos' hout'
      · simp at h
    · split at h
      · rename_i H' vc1 hse
        split at h
        · rename_i f' vc2 eqs2 hre
          simp only [SR.go.injEq] at h
          obtain ⟨rfl, rfl, rfl, rfl⟩ := h
          obtain ⟨w2, r1, r2, r3, r4, r5, r6, r7⟩ := seval_sound he hds'.own hse hvc.1 hX
          have hext := ext_same r4 r5
          obtain ⟨_, hms⟩ := dreg_loud ho hre hvc.2 heqs hds'.size (hext.frok hds'.frok) (by simp [SV.ok]) hk (hext.decok hds.frok hd) (hext.dr hds'.frok hds'.dr) r3 (hst.ext hext) r2 (r6.trans hos') (r7.trans hout')
          refine ⟨_, hsteps.trans (.one (step_skipped (getL ho) hwant r1)), ?_⟩
          rw [← undef_den H'.ids]
          exact hms
        · simp at h
      · split at h
        · rename_i g args hce
          have hc := ceval_sound (P := C.P) he hce hX
          obtain ⟨m', g1, g2⟩ := call_goes (E1 := E') (x := x) (l := l') h ⟨hds'.size, hds'.frok, x :: l', k', rfl, hk, hd, hds'.dr, x, r, l', rfl, rfl, fun q hq => by rw [ho] at hq; simp only [Option.some.injEq] at hq; subst hq; exact ⟨hc0, hc1⟩⟩ hst hds'.own hds.hok hos' hout' (getL ho) hwant (hc.1 w') hc.2
          exact ⟨m', hsteps.trans g1, g2⟩
        · simp at h

theorem stepDreg_new {hs : List Hint} {f : Nat → St}
    (h : stepDreg C H fn nt fr ops x r dec k stk hs = .new f) (hm : MIs C.P os out cs F ⟨H, ⟨fn, nt, fr, .dreg ops (x :: r) dec :: k⟩, stk⟩ m) :
    ∃ b, Goes C.P os out cs F m (f b) ∧ ∀ b', (f b').H.length = H.length + 1 ∧ ∀ j, j < H.length → nthO (f b').H j = nthO H j := by
  obtain ⟨tmps, l, k', E1, cs1, E2, w, rfl, hk, hd, hds, hst, hos, hout⟩ := dreg_state hm
  unfold stepDreg at h
  split at h
  · simp at h
  rename_i o hox
  have ho : ops.toList[x]? = some o := by rw [← nthO_eq]; exact hox
  have hoh := ord_head hds.dr.ord ho
  split at h
  · simp at h
  rename_i hb
  split at h
  · split at h <;> simp at h
  rename_i wnt hg
  split at h
  · split at h
    · simp at h
    split at h
    · simp at h
    · split at h <;> simp at h
  rename_i hcb
  have hc0 : clsOf C.P o ≠ 0 := fun e => by rw [e] at hcb; simp at hcb
  split at h
  · simp at h
  rename_i hearly
  split at h
  · simp at h
  split at h
  · rename_i hcb1
    have hc1 := Nat.eq_of_beq_eq_true hcb1
    split at h
    · rename_i so mk hae
      simp only [SR.new.injEq] at h
      subst h
      by_cases hxl : x ∈ l
      · obtain ⟨l', tmps', E', w', hds', ho1, ho2, hsteps⟩ := hds.advance (hoh.2.1 hc0) hearly (bF fn) k' (cs1 ++ cs) hxl
        have hon := hds'.reads ho hoh.1
        have hwant := wantQ hg hon hd
        have he := mkEnv_ok (C := C) hds.hok hds.frok hon
        obtain ⟨obj, hmade⟩ := aeval_sound he hae (fun t ht => List.mem_append_left _ ht)
        refine ⟨w'.heap.size, ⟨_, hsteps.trans (.one (step_value (getL ho) hwant (hmade.run w' H.length (Hp.ids (H ++ [(w'.heap.size, some so)])) (ids_new _ _)))), ?_⟩, fun b' => ⟨by simp, fun j hj => by rw [nthO_append, if_pos hj]⟩⟩
        have hso := SO.same (fun j hj => ids_append (w'.heap.size, some so) hj) (Nat.le_succ H.length) w'.heap.size hmade.ok
        have hden : (H ++ [(w'.heap.size, some so)]).den = H.den ++ [(w'.heap.size, obj)] := by
          rw [den_push hds.hok, hso.1]
          have e0 := hmade.den w'.heap.size
          simp only [mkEnv] at e0
          rw [e0]
        have hown : OwnL (w'.alloc obj) ((H ++ [(w'.heap.size, some so)]).den ++ (E' ++ (E2 ++ F))) := by
          rw [hden]
          exact (OwnL.alloc hds'.own obj).perm (by simpa using (List.perm_middle (a := (w'.heap.size, obj)) (l₁ := H.den) (l₂ := E' ++ (E2 ++ F))).symm)
        have := hds'.loud ho hb (ext_push _) ⟨_, hden⟩ (ok_push hds.hok _ _ hso.2) hown (v := mk H.length w'.heap.size) (by simpa using hmade.vok H.length w'.heap.size _ (ids_new _ _))
        rw [act_put]
        exact dregW_state hk (decok_put ((ext_push _).decok hds.frok hd)) this (hst.ext (ext_push _)) (ho1.trans hos) (ho2.trans hout)
      · obtain ⟨b, E', hds'⟩ := hds.made hxl ho hb hae
        exact ⟨b, ⟨_, Steps.refl _ _, dregW_state hk (decok_put ((ext_push _).decok hds.frok hd)) hds' (hst.ext (ext_push _)) hos hout⟩, fun b' => ⟨by simp, fun j hj => by rw [nthO_append, if_pos hj]⟩⟩
    · simp at h
  · split at h
    · split at h <;> simp at h
    · split at h
      · split at h <;> simp at h
      · split at h
        · unfold stepCall at h
          split at h
          · simp at h
          · split at h
            · split at h <;> simp at h
            · simp at h
        · simp at h
end
end Go.Sx

/- The symbolic executor 'Sx': regions whose order is drawn: the orders. -/
namespace Go.Sx
open Go

theorem le_of_sub {m : List Nat} (hm : m.Nodup) : ∀ {l : List Nat}, (∀ x ∈ m, x ∈ l) → m.length ≤ l.length := by
  induction m with
  | nil => intro l _; simp
  | cons x m ih =>
    intro l h
    have hn := List.nodup_cons.1 hm
    have hx := h x (by simp)
    have := ih hn.2 (l := l.erase x) fun y hy => by
      have hyx : y ≠ x := fun e => hn.1 (e ▸ hy)
      exact (List.mem_erase_of_ne hyx).2 (h y (by simp [hy]))
    rw [List.length_erase_of_mem hx] at this
    have : 0 < l.length := List.length_pos_of_mem hx
    simp only [List.length_cons]
    omega
theorem nodup_of_sub : ∀ {l m : List Nat}, m.Nodup → (∀ x ∈ m, x ∈ l) → l.length ≤ m.length → l.Nodup
  | [], _, _, _, _ => List.nodup_nil
  | x :: l, m, hm, h, hlen => by
    have hxl : x ∉ l := fun hx => by
      have := le_of_sub hm (l := l) fun y hy => by
        rcases List.mem_cons.1 (h y hy) with rfl | e
        · exact hx
        · exact e
      simp only [List.length_cons] at hlen
      omega
    refine List.nodup_cons.2 ⟨hxl, nodup_of_sub (m := m.erase x) (hm.erase x) (fun y hy => ?_) ?_⟩
    · have := (List.Nodup.mem_erase_iff hm).1 hy
      rcases List.mem_cons.1 (h y this.2) with e | e
      · exact absurd e this.1
      · exact e
    · by_cases hxm : x ∈ m
      · rw [List.length_erase_of_mem hxm]; simp only [List.length_cons] at hlen; omega
      · exfalso
        have := le_of_sub hm (l := l) fun y hy => by
          rcases List.mem_cons.1 (h y hy) with rfl | e
          · exact absurd hy hxm
          · exact e
        simp only [List.length_cons] at hlen
        omega
theorem full_of {n : Nat} {l : List Nat} (h1 : l.Nodup) (h2 : ∀ i ∈ l, i < n) (h3 : l.length = n) : ∀ i, i < n → i ∈ l := by
  intro i hi
  refine Classical.byContradiction fun hn => ?_
  have := le_of_sub (m := i :: l) (List.nodup_cons.2 ⟨hn, h1⟩) (l := List.range n) fun y hy => by
    rcases List.mem_cons.1 hy with rfl | e
    · simpa using hi
    · simpa using h2 y e
  simp at this
  omega
theorem mem_ready {ops : Array Oper} {listed : Array Bool} {i : Nat} : i ∈ Region.ready .any ops listed ↔ i < ops.size ∧ listed.getD i true = false ∧ ∃ o, ops[i]? = some o ∧ ∀ d ∈ depsOf o, listed.getD d false = true := by
  unfold Region.ready
  simp only [List.mem_filter, List.mem_range, Bool.and_eq_true, Bool.not_eq_true']
  refine and_congr_right fun _ => and_congr_right fun _ => ?_
  cases ho : ops[i]? with
  | none => simp
  | some o =>
    simp only [Option.map_some, Option.getD_some, Option.some.injEq, exists_eq_left', depsOf]
    rw [Array.all_eq_true_iff_forall_mem]
    constructor
    · intro h d hd
      obtain ⟨e, he, rfl⟩ := List.mem_map.1 hd
      obtain ⟨he1, he2⟩ := List.mem_filter.1 he
      have := h e (by simpa using he1)
      rw [he2] at this
      simpa using this
    · intro h e he
      cases hb : Region.binds .any e with
      | false => simp
      | true =>
        have := h e.on (List.mem_map.2 ⟨e, List.mem_filter.2 ⟨by simpa using he, hb⟩, rfl⟩)
        simpa using this
theorem lin_go {ops : Array Oper} (hb : backB 0 ops.toList = true) : ∀ (fuel t : Nat) (listed : Array Bool), listed.size = ops.size →
    ∃ l, Region.linearise.go .any ops fuel t listed [] = l ∧ l.Nodup ∧ (∀ i ∈ l, i < ops.size ∧ listed.getD i true = false) ∧ LinOk ops.toList l ∧
      (l.length = fuel ∨ ∀ i, i < ops.size → listed.getD i true = false → i ∈ l) ∧ (∀ i ∈ l, True)
  | 0, t, listed, hs => ⟨[], by simp [Region.linearise.go], List.nodup_nil, by simp, trivial, .inl rfl, by simp⟩
  | fuel + 1, t, listed, hs => by
    simp only [Region.linearise.go]
    change ∃ l, (match (Region.ready .any ops listed)[t % (Region.ready .any ops listed).length]? with
      | some i => Region.linearise.go .any ops fuel (t / (Region.ready .any ops listed).length) (listed.setIfInBounds i true) [i]
      | none => [].reverse) = l ∧ _
    cases hi : (Region.ready .any ops listed)[t % (Region.ready .any ops listed).length]? with
    | none =>
      have hnil : Region.ready .any ops listed = [] := by
        cases hr : Region.ready .any ops listed with
        | nil => rfl
        | cons x xs =>
          rw [hr] at hi
          have hlt : t % (x :: xs).length < (x :: xs).length := Nat.mod_lt _ (by simp)
          simp at hi
          simp at hlt
          omega
      refine ⟨[], by simp, List.nodup_nil, by simp, trivial, .inr fun i hi hl => ?_, by simp⟩
      exfalso
      -- the least that is not listed is ready
      have : ∀ n i, i < n → i < ops.size → listed.getD i true = false → False := by
        intro n
        induction n with
        | zero => intro i h; omega
        | succ n ih =>
          intro i hin his hl
          obtain ⟨o, ho⟩ : ∃ o, ops[i]? = some o := ⟨_, Array.getElem?_eq_getElem his⟩
          have hbk := back_spec hb i o (by rw [Array.getElem?_toList]; exact ho)
          have : i ∈ Region.ready .any ops listed := mem_ready.2 ⟨his, hl, o, ho, fun d hd => by
            have hdi := hbk.1 d hd
            rw [Nat.zero_add] at hdi
            have hds : d < ops.size := by omega
            cases hld : listed.getD d false with
            | true => rfl
            | false =>
              exfalso
              refine ih d (by omega) hds ?_
              rw [← hs] at hds
              simp only [Array.getD, hds, dite_true] at hld ⊢
              exact hld⟩
          rw [hnil] at this
          simp at this
      exact this (i + 1) i (by omega) hi hl
    | some i =>
      simp only []
      rw [linearise_go_acc, List.reverse_singleton, List.singleton_append]
      have hr := mem_ready.1 (List.mem_of_getElem? hi)
      obtain ⟨hr1, hr2, o, ho, hr3⟩ := hr
      obtain ⟨l, e, g1, g2, g3, g4, _⟩ := lin_go hb fuel (t / (Region.ready .any ops listed).length) (listed.setIfInBounds i true) (by simp [hs])
      have hset : ∀ j, (listed.setIfInBounds i true).getD j true = if j = i then true else listed.getD j true := by
        intro j
        simp only [Array.getD_eq_getD_getElem?]
        by_cases hji : j = i
        · subst hji
          rw [Array.getElem?_setIfInBounds_self, if_pos (by omega)]
          simp
        · rw [Array.getElem?_setIfInBounds_ne (fun e => hji e.symm), if_neg hji]
      have hnl : ∀ j ∈ l, j ≠ i ∧ listed.getD j true = false := fun j hj => by
        have := (g2 j hj).2
        rw [hset] at this
        split at this
        · simp at this
        · rename_i h; exact ⟨h, this⟩
      refine ⟨i :: l, by rw [e], List.nodup_cons.2 ⟨fun hm => (hnl i hm).1 rfl, g1⟩, fun j hj => ?_, ⟨fun o' ho' d hd hm => ?_, g3⟩, ?_, by simp⟩
      · rcases List.mem_cons.1 hj with rfl | hj
        · exact ⟨hr1, hr2⟩
        · exact ⟨(g2 j hj).1, (hnl j hj).2⟩
      · rw [Array.getElem?_toList, ho] at ho'
        simp only [Option.some.injEq] at ho'; subst ho'
        have h1 := hr3 d hd
        have h2 : listed.getD d true = false := by
          rcases List.mem_cons.1 hm with rfl | hm
          · exact hr2
          · exact (hnl d hm).2
        simp only [Array.getD] at h1 h2
        split at h1
        · rename_i hlt
          rw [dif_pos hlt] at h2
          rw [h1] at h2; simp at h2
        · simp at h1
      · rcases g4 with g4 | g4
        · left; simp [g4]
        · right
          intro j hj hl
          by_cases hji : j = i
          · simp [hji]
          · exact List.mem_cons_of_mem _ (g4 j hj (by rw [hset, if_neg hji]; exact hl))
theorem lin_any {ops : Array Oper} (hb : backB 0 ops.toList = true) (t : Nat) : (Region.linearise .any ops t).Nodup ∧ (∀ i, i ∈ Region.linearise .any ops t ↔ i < ops.size) ∧ LinOk ops.toList (Region.linearise .any ops t) := by
  obtain ⟨l, e, g1, g2, g3, g4, _⟩ := lin_go hb ops.size t (Array.replicate ops.size false) (by simp)
  have e : Region.linearise .any ops t = l := e
  rw [e]
  refine ⟨g1, fun i => ⟨fun hi => (g2 i hi).1, fun hi => ?_⟩, g3⟩
  rcases g4 with g4 | g4
  · exact full_of g1 (fun i hi => (g2 i hi).1) g4 i hi
  · exact g4 i hi (by simp [Array.getD, hi])
/-- The order that is meant, where it is served. -/
theorem canon_spec {P : Program} {ops : List Oper} {r : List Nat} (h : canon P ops = some r) : r.Nodup ∧ (∀ i, i ∈ r ↔ i < ops.length) ∧ backB 0 ops = true ∧ ssaB P ops 0 ops = true ∧ orderB P ops r = true ∧ selB ops = true := by
  unfold canon at h
  simp only at h
  split at h
  · rename_i hc
    simp only [Option.some.injEq] at h
    rw [h] at hc
    simp only [Bool.and_eq_true] at hc
    obtain ⟨⟨⟨⟨⟨h1, h2⟩, h3⟩, h4⟩, h5⟩, h6⟩ := hc
    have h1 := Nat.eq_of_beq_eq_true h1
    have h2 := Nat.eq_of_beq_eq_true h2
    have hm : ∀ i, i ∈ r ↔ i < ops.length := fun i => by rw [← testBit_maskOf r i, h2, testBit_maskOf]; simp
    exact ⟨nodup_of_sub (m := List.range ops.length) List.nodup_range (fun x hx => (hm x).2 (by simpa using hx)) (by simp [h1]), hm, h3, h4, h5, h6⟩
  · simp at h
/-- A region whose order is drawn is entered. -/
theorem dreg_enter {C : Cfg} (hmix : C.P.follows .mixedOrders = true) {os : Os} {out : Array (Nat × ByteArray)} {cs : List Frame} {F : List (Nat × Obj)} {H : Hp} {fn nt : Nat} {fr : Fr} {id : Nat} {ops : Array Oper} {r : List Nat} {k : List SItem} {stk : List SF} (hcan : canon C.P ops.toList = some r)
    {tmps : Array Value} {k' : List Item} {cs1 : List Frame} {E2 : List (Nat × Obj)} {w : World} (h1 : tmps.size = nt) (h2 : FrOk H.length H.ids fr) (h4 : IRels k k') (h6 : FrOn H.ids fr (fun _ => True) tmps)
    (h7 : StkIs C.P H stk cs1 E2) (h8 : OwnL w (H.den ++ ([] ++ (E2 ++ F)))) (h9 : H.ok) (h10 : w.os = os) (h11 : w.output = out) :
    Goes C.P os out cs F (lone ((bF fn).at ⟨tmps, []⟩ (.code (.region id ops true) :: k')) (cs1 ++ cs) w) ⟨H, ⟨fn, nt, fr, .dreg ops r [] :: k⟩, stk⟩ := by
  obtain ⟨c1, c2, c3, c4, c5, c6⟩ := canon_spec hcan
  refine ⟨_, .one step_region_draw, ?_⟩
  simp only [Region.schedule, hmix, Bool.true_or, if_true]
  obtain ⟨l1, l2, l3⟩ := lin_any c3 (w.tape w.drawn (.order (bF fn).fn id))
  have hall : ∀ i o, ops.toList[i]? = some o → i < ops.size := fun i o h => by simpa using (List.getElem?_eq_some_iff.1 h).1
  refine dregW_state (E1 := []) h4 (fun t q h => by simp [decB] at h) ⟨h1, h2, h9, ?_, fun i hi hir => absurd ((c2 i).2 (by simpa using (l2 i).1 hi)) hir, OwnL.heap h8 rfl⟩ h7 h10 h11
  exact {
    nodup := l1
    lt := fun i hi => by simpa using (l2 i).1 hi
    lin := l3
    down := fun j o hj ho => absurd ((l2 j).2 (hall j o ho)) hj
    ord := c5
    rnodup := c1
    rlt := fun i hi => (c2 i).1 hi
    rdown := fun j o hj ho => absurd ((c2 j).2 (by simpa using hall j o ho)) hj
    ssa := c4
    back := c3
    sel := c6
    pend := fun i o hi hir ho => absurd ((c2 i).2 (by simpa using hall i o ho)) hir
    early := ⟨[], rfl, by simp, fun i hi hil => absurd ((l2 i).2 (by simpa using (c2 i).1 hi)) hil, by simp⟩
    on := fun t sv ht _ _ => h6 t sv trivial ht }
/-- A region whose order is drawn is left. -/
theorem dreg_leave {C : Cfg} {os : Os} {out : Array (Nat × ByteArray)} {cs : List Frame} {F : List (Nat × Obj)} {m : Machine} {H : Hp} {fn nt : Nat} {fr : Fr} {ops : Array Oper} {dec : List (Nat × Bool)} {k : List SItem} {stk : List SF}
    (hm : MIs C.P os out cs F ⟨H, ⟨fn, nt, fr, .dreg ops [] dec :: k⟩, stk⟩ m) :
    ∃ tmps k' cs1 E2 w, Steps C.P m (lone ((bF fn).at ⟨tmps, []⟩ k') (cs1 ++ cs) w) ∧ IRels k k' ∧ tmps.size = nt ∧ FrOk H.length H.ids fr ∧ FrOn H.ids fr (fun _ => True) tmps ∧ StkIs C.P H stk cs1 E2 ∧ OwnL w (H.den ++ ([] ++ (E2 ++ F))) ∧ H.ok ∧ w.os = os ∧ w.output = out := by
  obtain ⟨tmps, l, k', E1, cs1, E2, w, rfl, hk, hd, hds, hst, hos, hout⟩ := dreg_state hm
  obtain ⟨tmps', hds', hs⟩ := hds.finish (bF fn) k' (cs1 ++ cs)
  have hE : E1 = [] := by
    obtain ⟨Es, e1, _, _, e4⟩ := hds'.dr.early
    cases Es with
    | nil => simpa using e1
    | cons x Es => exact absurd (e4 x (by simp)).1 (by simp)
  subst hE
  refine ⟨tmps', k', cs1, E2, w, hs.trans (.one step_region_end), hk, hds'.size, hds'.frok, fun t sv _ ht => hds'.dr.on t sv ht (fun i o hi => by simp at hi) (fun i o hi => by simp at hi), hst, hds'.own, hds'.hok, hos, hout⟩
end Go.Sx

/- The symbolic executor 'Sx': steps; runs. -/
namespace Go.Sx
open Go

theorem exit_rel {id : Nat} : ∀ {k s : List SItem} {k' : List Item}, IRels k k' → exitS id k = some s → ∃ s', exitTo id k' = some s' ∧ IRels s s'
  | [], s, k', _, h => by simp [exitS] at h
  | x :: k, s, _ :: k', .cons hx hk, h => by
    cases hx with
    | blk i =>
      simp only [exitS] at h
      split at h
      · rename_i hb
        have := Nat.eq_of_beq_eq_true hb
        subst this
        simp only [Option.some.injEq] at h; subst h
        exact ⟨k', by simp [exitTo], hk⟩
      · rename_i hb
        obtain ⟨s', h1, h2⟩ := exit_rel hk h
        refine ⟨s', ?_, h2⟩
        have : (i == id) = false := by
          cases hh : i == id with
          | false => rfl
          | true => exact absurd (by simpa using hh) (fun e : i = id => by subst e; simp at hb)
        simp [exitTo, this, h1]
    | code c => simp only [exitS] at h; obtain ⟨s', h1, h2⟩ := exit_rel hk h; exact ⟨s', by simpa [exitTo] using h1, h2⟩
    | loop1 c => simp only [exitS] at h; obtain ⟨s', h1, h2⟩ := exit_rel hk h; exact ⟨s', by simpa [exitTo] using h1, h2⟩
    | loop2 c => simp only [exitS] at h; obtain ⟨s', h1, h2⟩ := exit_rel hk h; exact ⟨s', by simpa [exitTo] using h1, h2⟩
    | scope c => simp only [exitS] at h; obtain ⟨s', h1, h2⟩ := exit_rel hk h; exact ⟨s', by simpa [exitTo] using h1, h2⟩
theorem rels_noreg {k : List SItem} {k' : List Item} (h : IRels k k') : (∀ ops r dec k0, k ≠ .dreg ops r dec :: k0) ∧ (∀ ops i r dec k0, k ≠ .reg ops i r dec :: k0) := by
  cases h with
  | nil => exact ⟨fun _ _ _ _ => by simp, fun _ _ _ _ _ => by simp⟩
  | cons hx _ => cases hx <;> exact ⟨fun _ _ _ _ => by simp, fun _ _ _ _ _ => by simp⟩
section
variable {C : Cfg} {os : Os} {out : Array (Nat × ByteArray)} {cs : List Frame} {F : List (Nat × Obj)} {m : Machine} {H : Hp} {fn nt : Nat} {fr : Fr} {k : List SItem} {stk : List SF}

/-- A state outside regions. -/
theorem code_state (hk0 : (∀ ops r dec k0, k ≠ .dreg ops r dec :: k0) ∧ (∀ ops i r dec k0, k ≠ .reg ops i r dec :: k0)) (h : MIs C.P os out cs F ⟨H, ⟨fn, nt, fr, k⟩, stk⟩ m) :
    ∃ tmps k' cs1 E2 w, m = lone ((bF fn).at ⟨tmps, []⟩ k') (cs1 ++ cs) w ∧ IRels k k' ∧ tmps.size = nt ∧ FrOk H.length H.ids fr ∧ FrOn H.ids fr (fun _ => True) tmps ∧ StkIs C.P H stk cs1 E2 ∧ OwnL w (H.den ++ ([] ++ (E2 ++ F))) ∧ H.ok ∧ w.os = os ∧ w.output = out := by
  obtain ⟨tmps, todo, E1, cs1, E2, w, rfl, ⟨h1, h2, h3⟩, hst, hw, hok, hos, hout⟩ := h.is
  have h3' : IRels k todo ∧ E1 = [] ∧ FrOn H.ids fr (fun _ => True) tmps := by
    split at h3
    · rename_i ops r dec k0 e; exact absurd e (hk0.1 ops r dec k0)
    · rename_i ops i r dec k0 e; exact absurd e (hk0.2 ops i r dec k0)
    · exact h3
  obtain ⟨h4, rfl, h5⟩ := h3'
  exact ⟨tmps, todo, cs1, E2, w, rfl, h4, h1, h2, h5, hst, hw, hok, hos, hout⟩
theorem codeW_state {tmps : Array Value} {k' : List Item} {cs1 : List Frame} {E2 : List (Nat × Obj)} {w : World} (h1 : IRels k k') (h2 : tmps.size = nt) (h3 : FrOk H.length H.ids fr) (h4 : FrOn H.ids fr (fun _ => True) tmps) (h5 : StkIs C.P H stk cs1 E2) (h6 : OwnL w (H.den ++ ([] ++ (E2 ++ F)))) (h7 : H.ok) (h8 : w.os = os) (h9 : w.output = out) :
    MIs C.P os out cs F ⟨H, ⟨fn, nt, fr, k⟩, stk⟩ (lone ((bF fn).at ⟨tmps, []⟩ k') (cs1 ++ cs) w) := by
  refine ⟨⟨tmps, k', [], cs1, E2, w, rfl, ⟨h2, h3, ?_⟩, h5, h6, h7, h8, h9⟩⟩
  split
  · rename_i ops r dec k0 e; exact absurd e ((rels_noreg h1).1 ops r dec k0)
  · rename_i ops i r dec k0 e; exact absurd e ((rels_noreg h1).2 ops i r dec k0)
  · exact ⟨h1, rfl, h4⟩

/-- A function hands a value back to its caller. -/
theorem stepRet_go {hs hs' : List Hint} {st' : St} {vc : Prop} {eqs : List (SV × SV)} (h : stepRet C H fn fr stk hs = .go st' hs' vc eqs) (hvc : vc) (heqs : eqsOk eqs)
    {tmps : Array Value} {k' : List Item} {cs1 : List Frame} {E2 : List (Nat × Obj)} {w : World} (hr : k' = [] ∨ ∃ k0, k' = .code .ret :: k0) (h3 : FrOk H.length H.ids fr) (h4 : FrOn H.ids fr (fun _ => True) tmps) (h5 : StkIs C.P H stk cs1 E2) (h6 : OwnL w (H.den ++ ([] ++ (E2 ++ F)))) (h7 : H.ok) (h8 : w.os = os) (h9 : w.output = out) :
    Goes C.P os out cs F (lone ((bF fn).at ⟨tmps, []⟩ k') (cs1 ++ cs) w) st' ∧ st'.H = H := by
  cases h5 with
  | nil => simp [stepRet] at h
  | @cons sf tm todo Ea Eb r csr hf hst =>
    simp only [stepRet] at h
    split at h
    · rename_i v vc1 hv
      split at h
      · rename_i f' vc2 eqs2 hre
        simp only [SR.go.injEq] at h
        obtain ⟨rfl, rfl, rfl, rfl⟩ := h
        refine ⟨?_, rfl⟩
        obtain ⟨f, hf1, hf2, hf3⟩ := retV_sound h7 h3 h4 h6 hv hvc.1
        have hleave : ∀ todo', Frame.leaving C.P { (bF fn).at ⟨tmps, []⟩ todo' with mode := .returning } w (.returned (v.den H.ids)) := fun todo' => ⟨rfl, rfl, rfl, f, hf1, hf2⟩
        have hret : Steps C.P (lone ((bF fn).at ⟨tmps, []⟩ k') ((((bF sf.fn).at ⟨tm, []⟩ todo) :: csr) ++ cs) w) (lone (((bF sf.fn).at ⟨tm, []⟩ todo).finish (v.den H.ids)) (csr ++ cs) w) := by
          rcases hr with rfl | ⟨k0, rfl⟩
          · exact .head step_end (.one (step_leave_returned (hleave _)))
          · exact .head step_ret (.one (step_leave_returned (hleave _)))
        obtain ⟨fn2, nt2, fr2, td2⟩ := sf
        obtain ⟨g1, g2, g3⟩ := hf
        simp only at g1 g2 g3 hre
        cases td2 with
        | nil => simp [resume] at hre
        | cons it k2 =>
          cases it with
          | reg ops i rest dec =>
            cases rest with
            | nil => simp [resume] at hre
            | cons o rest =>
              simp only at g3
              obtain ⟨k2', rfl, e2, e3, e4, rfl, e6⟩ := g3
              simp only [resume, Option.some.injEq, Prod.mk.injEq] at hre
              obtain ⟨rfl, rfl, rfl⟩ := hre
              obtain ⟨d1, d2, d3⟩ := drop_cons e2
              rw [Array.getElem?_toList] at d1
              have hlt : i < ops.size := by simpa using d3
              rw [range_cons hlt] at hret
              rw [fin_at d1] at hret
              refine ⟨_, ?_, reg_done (os := os) (out := out) (w' := w) (k' := k2') g1 g2 d2 e3 e4 e6 hst (Ext.refl H) (by simpa using h6) h7 h8 h9 hf3 rfl⟩
              rw [range_cons hlt]
              exact hret
          | dreg ops r2 dec =>
            cases r2 with
            | nil => simp [resume] at hre
            | cons x r2 =>
              simp only at g3
              obtain ⟨l, k2', rfl, e2, e3, e4, x', r', l', e5, rfl, e7⟩ := g3
              simp only [List.cons.injEq] at e5
              obtain ⟨rfl, rfl⟩ := e5
              obtain ⟨o, ho⟩ : ∃ o, ops.toList[x]? = some o := ⟨_, List.getElem?_eq_getElem (e4.lt x (by simp))⟩
              have h6' : OwnL w (H.den ++ (Ea ++ (Eb ++ F))) := by simpa [List.append_assoc] using h6
              obtain ⟨hb, hm⟩ := dreg_loud (cs := cs) ho hre hvc.2 heqs g1 g2 hf3 e2 e3 e4 h7 hst h6' h8 h9
              rw [fin_at (getL ho)] at hret
              exact ⟨_, hret, hm⟩
          | code c => simp [resume] at hre
          | blk c => simp [resume] at hre
          | loop c => simp [resume] at hre
          | scope c => simp [resume] at hre
      · simp at h
    · simp at h
/-- The run is at its end. -/
def atEnd : List SItem → Bool
  | [] => true
  | .code .ret :: _ => true
  | _ => false
theorem atEnd_spec (h : atEnd k = true) {k' : List Item} (hk : IRels k k') : k' = [] ∨ ∃ k0, k' = .code .ret :: k0 := by
  unfold atEnd at h
  split at h
  · cases hk; exact .inl rfl
  · cases hk with
    | cons hx _ => cases hx; exact .inr ⟨_, rfl⟩
  · simp at h

theorem stepCode_go (hmix : C.P.follows .mixedOrders = true) {c : Code} {hs hs' : List Hint} {st' : St} {vc : Prop} {eqs : List (SV × SV)} (h : stepCode C H fn nt fr c k stk hs = .go st' hs' vc eqs) (hvc : vc) (heqs : eqsOk eqs) (hm : MIs C.P os out cs F ⟨H, ⟨fn, nt, fr, .code c :: k⟩, stk⟩ m) :
    Goes C.P os out cs F m st' ∧ st'.H = H := by
  obtain ⟨tmps, k0, cs1, E2, w, rfl, hk, h2, h3, h4, h5, h6, h7, h8, h9⟩ := code_state ⟨by simp, by simp⟩ hm
  cases hk with
  | @cons _ y _ k' hx hk =>
  cases hx with
  | code c =>
  have hE : Env.Ok (mkEnv C H fr tmps (fun _ => True)) := mkEnv_ok h7 h3 h4
  have W : ∀ {k2 : List SItem} {k2' : List Item}, IRels k2 k2' → MIs C.P os out cs F ⟨H, ⟨fn, nt, fr, k2⟩, stk⟩ (lone ((bF fn).at ⟨tmps, []⟩ k2') (cs1 ++ cs) w) := fun h1 => codeW_state h1 h2 h3 h4 h5 h6 h7 h8 h9
  unfold stepCode at h
  split at h
  · simp only [SR.go.injEq] at h; obtain ⟨rfl, rfl, rfl, rfl⟩ := h
    exact ⟨⟨_, .one step_skip, W hk⟩, rfl⟩
  · simp only [SR.go.injEq] at h; obtain ⟨rfl, rfl, rfl, rfl⟩ := h
    exact ⟨⟨_, .one step_label, W hk⟩, rfl⟩
  · simp only [SR.go.injEq] at h; obtain ⟨rfl, rfl, rfl, rfl⟩ := h
    exact ⟨⟨_, .one step_seq, W (.cons (.code _) (.cons (.code _) hk))⟩, rfl⟩
  · rename_i x a b
    have ev : ∀ v, opv C.globs H fr x = some v → (⟨tmps, []⟩ : Act).eval x = v.den H.ids := fun v hv => (opv_sound hE hv (fun _ _ => trivial)).1
    split at h
    · rename_i hv
      simp only [SR.go.injEq] at h; obtain ⟨rfl, rfl, rfl, rfl⟩ := h
      exact ⟨⟨_, .one (step_cond (t := true) (by rw [ev _ hv]; simp [SV.den])), W (.cons (.code _) hk)⟩, rfl⟩
    · rename_i hv
      simp only [SR.go.injEq] at h; obtain ⟨rfl, rfl, rfl, rfl⟩ := h
      exact ⟨⟨_, .one (step_cond (t := false) (by rw [ev _ hv]; simp [SV.den])), W (.cons (.code _) hk)⟩, rfl⟩
    · rename_i y hv
      split at h
      · simp only [SR.go.injEq] at h; obtain ⟨rfl, rfl, rfl, rfl⟩ := h
        exact ⟨⟨_, .one (step_cond (t := true) (by rw [ev _ hv]; simp [SV.den, hvc])), W (.cons (.code _) hk)⟩, rfl⟩
      · simp only [SR.go.injEq] at h; obtain ⟨rfl, rfl, rfl, rfl⟩ := h
        exact ⟨⟨_, .one (step_cond (t := false) (by rw [ev _ hv]; simp [SV.den, hvc])), W (.cons (.code _) hk)⟩, rfl⟩
      · simp at h
    · simp at h
  · simp only [SR.go.injEq] at h; obtain ⟨rfl, rfl, rfl, rfl⟩ := h
    exact ⟨⟨_, .one step_block, W (.cons (.code _) (.cons (.blk _) hk))⟩, rfl⟩
  · simp only [SR.go.injEq] at h; obtain ⟨rfl, rfl, rfl, rfl⟩ := h
    exact ⟨⟨_, Steps.refl _ _, W (.cons (.loop2 _) hk)⟩, rfl⟩
  · simp only [SR.go.injEq] at h; obtain ⟨rfl, rfl, rfl, rfl⟩ := h
    exact ⟨⟨_, .one step_scope, W (.cons (.code _) (.cons (.scope _) hk))⟩, rfl⟩
  · split at h
    · rename_i k2 hk2
      simp only [SR.go.injEq] at h; obtain ⟨rfl, rfl, rfl, rfl⟩ := h
      obtain ⟨k2', e1, e2⟩ := exit_rel hk hk2
      exact ⟨⟨_, .one (step_exit e1), W e2⟩, rfl⟩
    · simp at h
  · exact stepRet_go h hvc heqs (.inr ⟨_, rfl⟩) h3 h4 h5 h6 h7 h8 h9
  · split at h
    · simp only [SR.go.injEq] at h; obtain ⟨rfl, rfl, rfl, rfl⟩ := h
      refine ⟨⟨_, .one step_region, ?_⟩, rfl⟩
      rw [List.range_eq_range', ← Nat.sub_zero (Array.size _)]
      exact regW_state (i := 0) h2 h3 (by simp) hk (fun t q h => by simp [decB] at h) h4 h5 h6 h7 h8 h9
    · split at h
      · rename_i r hcan
        simp only [SR.go.injEq] at h; obtain ⟨rfl, rfl, rfl, rfl⟩ := h
        exact ⟨dreg_enter hmix hcan h2 h3 hk h4 h5 h6 h7 h8 h9, rfl⟩
      · simp at h
  · simp at h
end
end Go.Sx

/- The symbolic executor 'Sx': runs. -/
namespace Go.Sx
open Go

theorem storeH_len {H H' : Hp} {a : SV} {l : List SV} {vc : Prop} (h : storeH H a l = some (H', vc)) : H'.length = H.length := by
  unfold storeH at h
  repeat' split at h
  all_goals first
    | (simp only [Option.some.injEq, Prod.mk.injEq] at h; obtain ⟨rfl, rfl⟩ := h; exact length_updL _ _ _)
    | simp at h
theorem seval_len {P : Program} {gl : List (Nat × Nat)} {H H' : Hp} {fr : Fr} {op : Op} {vc : Prop} (h : seval P gl H fr op = some (H', vc)) : H'.length = H.length := by
  unfold seval at h
  repeat' split at h
  all_goals first
    | exact storeH_len h
    | simp at h
theorem stepRet_len {C : Cfg} {H : Hp} {fn : Nat} {fr : Fr} {stk : List SF} {hs hs' : List Hint} {st' : St} {vc : Prop} {eqs : List (SV × SV)} (h : stepRet C H fn fr stk hs = .go st' hs' vc eqs) : st'.H.length = H.length := by
  unfold stepRet at h
  repeat' split at h
  all_goals first
    | (simp only [SR.go.injEq] at h; obtain ⟨rfl, rfl, rfl, rfl⟩ := h; rfl)
    | simp at h
theorem stepCall_len {C : Cfg} {H : Hp} {top : SF} {stk : List SF} {hs hs' : List Hint} {g : Nat} {args : List SV} {st' : St} {vc : Prop} {eqs : List (SV × SV)} (h : stepCall C H top stk hs g args = .go st' hs' vc eqs) : st'.H.length = H.length := by
  unfold stepCall at h
  repeat' split at h
  all_goals first
    | (simp only [SR.go.injEq] at h; obtain ⟨rfl, rfl, rfl, rfl⟩ := h; rfl)
    | simp at h
theorem stepReg_len {C : Cfg} {H : Hp} {fn nt : Nat} {fr : Fr} {ops : Array Oper} {i : Nat} {o : Oper} {rest : List Oper} {dec : List (Nat × Bool)} {k : List SItem} {stk : List SF} {hs hs' : List Hint} {st' : St} {vc : Prop} {eqs : List (SV × SV)}
    (h : stepReg C H fn nt fr ops i o rest dec k stk hs = .go st' hs' vc eqs) : st'.H.length = H.length := by
  unfold stepReg at h
  repeat' split at h
  all_goals first
    | exact stepCall_len h
    | (simp only [SR.go.injEq] at h; obtain ⟨rfl, rfl, rfl, rfl⟩ := h; first | rfl | (rename_i h; exact seval_len h))
    | simp at h
theorem stepDreg_len {C : Cfg} {H : Hp} {fn nt : Nat} {fr : Fr} {ops : Array Oper} {x : Nat} {r : List Nat} {dec : List (Nat × Bool)} {k : List SItem} {stk : List SF} {hs hs' : List Hint} {st' : St} {vc : Prop} {eqs : List (SV × SV)}
    (h : stepDreg C H fn nt fr ops x r dec k stk hs = .go st' hs' vc eqs) : st'.H.length = H.length := by
  unfold stepDreg at h
  repeat' split at h
  all_goals first
    | exact stepCall_len h
    | (simp only [SR.go.injEq] at h; obtain ⟨rfl, rfl, rfl, rfl⟩ := h; first | rfl | (rename_i h _ _ _ _ _; exact seval_len h))
    | simp at h

/-- What comes of a machine where the run is done: the bottom function hands back a value. -/
def Fin (P : Program) (os : Os) (out : Array (Nat × ByteArray)) (cs : List Frame) (F : List (Nat × Obj)) (fn : Nat) (Q : List (Nat × Obj) → Value → Prop) (m : Machine) : Prop :=
  ∃ v w fr L, Q L v ∧ OwnL w (L ++ F) ∧ w.os = os ∧ w.output = out ∧ Steps P m (lone fr cs w) ∧ fr.fn = fn ∧ fr.leaving P w (.returned v)
theorem Fin.of_steps {P : Program} {os : Os} {out : Array (Nat × ByteArray)} {cs : List Frame} {F : List (Nat × Obj)} {fn : Nat} {Q : List (Nat × Obj) → Value → Prop} {m m' : Machine} (h : Steps P m m') (h' : Fin P os out cs F fn Q m') : Fin P os out cs F fn Q m := by
  obtain ⟨v, w, fr, L, h1, h2, h3, h4, h5, h6⟩ := h'
  exact ⟨v, w, fr, L, h1, h2, h3, h4, h.trans h5, h6⟩
/-- From this state on, the bottom function hands back a value, and the memory is what is said. -/
def Good (C : Cfg) (fn : Nat) (Q : List (Nat × Obj) → Value → Prop) (st : St) : Prop := ∀ os out cs F m, MIs C.P os out cs F st m → Fin C.P os out cs F fn Q m

theorem step1_go {C : Cfg} (hmix : C.P.follows .mixedOrders = true) {st st' : St} {hs hs' : List Hint} {vc : Prop} {eqs : List (SV × SV)} (h : step1 C st hs = .go st' hs' vc eqs) (hvc : vc) (heqs : eqsOk eqs)
    {os : Os} {out : Array (Nat × ByteArray)} {cs : List Frame} {F : List (Nat × Obj)} {m : Machine} (hm : MIs C.P os out cs F st m) : Goes C.P os out cs F m st' ∧ st'.H.length = st.H.length := by
  obtain ⟨H, ⟨fn, nt, fr, todo⟩, stk⟩ := st
  unfold step1 at h
  simp only at h
  split at h
  · obtain ⟨tmps, k0, cs1, E2, w, rfl, hk, h2, h3, h4, h5, h6, h7, h8, h9⟩ := code_state ⟨by simp, by simp⟩ hm
    cases hk
    have := stepRet_go (cs := cs) h hvc heqs (.inl rfl) h3 h4 h5 h6 h7 h8 h9
    exact ⟨this.1, by rw [this.2]⟩
  · have := stepCode_go hmix h hvc heqs hm
    exact ⟨this.1, by rw [this.2]⟩
  · simp only [SR.go.injEq] at h; obtain ⟨rfl, rfl, rfl, rfl⟩ := h
    obtain ⟨tmps, k0, cs1, E2, w, rfl, hk, h2, h3, h4, h5, h6, h7, h8, h9⟩ := code_state ⟨by simp, by simp⟩ hm
    cases hk with
    | cons hx hk => cases hx; exact ⟨⟨_, .one step_inBlock, codeW_state hk h2 h3 h4 h5 h6 h7 h8 h9⟩, rfl⟩
  · simp only [SR.go.injEq] at h; obtain ⟨rfl, rfl, rfl, rfl⟩ := h
    obtain ⟨tmps, k0, cs1, E2, w, rfl, hk, h2, h3, h4, h5, h6, h7, h8, h9⟩ := code_state ⟨by simp, by simp⟩ hm
    cases hk with
    | cons hx hk => cases hx; exact ⟨⟨_, .one step_inScope, codeW_state hk h2 h3 h4 h5 h6 h7 h8 h9⟩, rfl⟩
  · split at h
    · simp only [SR.go.injEq] at h; obtain ⟨rfl, rfl, rfl, rfl⟩ := h
      obtain ⟨tmps, k0, cs1, E2, w, rfl, hk, h2, h3, h4, h5, h6, h7, h8, h9⟩ := code_state ⟨by simp, by simp⟩ hm
      cases hk with
      | cons hx hk =>
        cases hx with
        | loop1 => exact ⟨⟨_, .one step_inLoop, codeW_state (.cons (.code _) (.cons (.loop1 _) hk)) h2 h3 h4 h5 h6 h7 h8 h9⟩, rfl⟩
        | loop2 => exact ⟨⟨_, .one step_loop, codeW_state (.cons (.code _) (.cons (.loop1 _) hk)) h2 h3 h4 h5 h6 h7 h8 h9⟩, rfl⟩
    · simp at h
  · simp only [SR.go.injEq] at h; obtain ⟨rfl, rfl, rfl, rfl⟩ := h
    obtain ⟨tmps, todo, E1, cs1, E2, w, rfl, ⟨h1, h2, h3⟩, hst, hw, hok, hos, hout⟩ := hm.is
    obtain ⟨k', rfl, hr, hk, hd, rfl, hon⟩ := h3
    rename_i ops i _ _
    have hge : ops.size - i = 0 := by
      have := congrArg List.length hr
      simp at this
      omega
    rw [hge]
    exact ⟨⟨_, .one step_region_end, codeW_state hk h1 h2 hon hst hw hok hos hout⟩, rfl⟩
  · exact ⟨stepReg_go h hvc hm, stepReg_len h⟩
  · simp only [SR.go.injEq] at h; obtain ⟨rfl, rfl, rfl, rfl⟩ := h
    obtain ⟨tmps, k', cs1, E2, w, hs, hk, h2, h3, h4, h5, h6, h7, h8, h9⟩ := dreg_leave hm
    exact ⟨⟨_, hs, codeW_state hk h2 h3 h4 h5 h6 h7 h8 h9⟩, rfl⟩
  · exact ⟨stepDreg_go h hvc heqs hm, stepDreg_len h⟩
theorem stepCode_new {C : Cfg} {H : Hp} {fn nt : Nat} {fr : Fr} {c : Code} {k : List SItem} {stk : List SF} {hs : List Hint} {f : Nat → St} (h : stepCode C H fn nt fr c k stk hs = .new f) : False := by
  unfold stepCode at h
  repeat' split at h
  all_goals first
    | (simp at h; done)
    | (unfold stepRet at h; repeat' split at h
       all_goals simp at h)
theorem step1_new {C : Cfg} {st : St} {hs : List Hint} {f : Nat → St} (h : step1 C st hs = .new f)
    {os : Os} {out : Array (Nat × ByteArray)} {cs : List Frame} {F : List (Nat × Obj)} {m : Machine} (hm : MIs C.P os out cs F st m) : ∃ b, Goes C.P os out cs F m (f b) ∧ ∀ b', (f b').H.length = st.H.length + 1 := by
  obtain ⟨H, ⟨fn, nt, fr, todo⟩, stk⟩ := st
  unfold step1 at h
  simp only at h
  split at h
  · unfold stepRet at h; repeat' split at h
    all_goals simp at h
  · exact (stepCode_new h).elim
  · simp at h
  · simp at h
  · split at h <;> simp at h
  · simp at h
  · obtain ⟨b, h1, h2⟩ := stepReg_new h hm
    exact ⟨b, h1, fun b' => (h2 b').1⟩
  · simp at h
  · obtain ⟨b, h1, h2⟩ := stepDreg_new h hm
    exact ⟨b, h1, fun b' => (h2 b').1⟩
theorem run_at {C : Cfg} (hmix : C.P.follows .mixedOrders = true) {fn : Nat} {Q : List (Nat × Obj) → Value → Prop} : ∀ (n : Nat) (hs : List Hint) (st : St) (β0 : Nat → Nat),
    (∀ β, (∀ j, j < st.H.length → β j = β0 j) → (run C β n hs st).vc ∧ eqsOk (run C β n hs st).eqs ∧ Good C fn Q (run C β n hs st).st) → Good C fn Q st
  | 0, hs, st, β0, h => (h β0 (fun _ _ => rfl)).2.2
  | n + 1, hs, st, β0, h => by
    intro os out cs F m hm
    cases hst : step1 C st hs with
    | stop =>
      have := (h β0 (fun _ _ => rfl)).2.2
      simp only [run, hst] at this
      exact this os out cs F m hm
    | go st' hs' vc eqs =>
      have h0 := h β0 (fun _ _ => rfl)
      simp only [run, hst] at h0
      obtain ⟨⟨m', g1, g2⟩, g3⟩ := step1_go hmix hst h0.1.1 (fun p hp => h0.2.1 p (by simp [hp])) hm
      refine Fin.of_steps g1 (run_at hmix n hs' st' β0 (fun β hβ => ?_) os out cs F m' g2)
      have h1 := h β (fun j hj => hβ j (by omega))
      simp only [run, hst] at h1
      exact ⟨h1.1.2, fun p hp => h1.2.1 p (by simp [hp]), h1.2.2⟩
    | new f =>
      obtain ⟨b, ⟨m', g1, g2⟩, g3⟩ := step1_new hst hm
      refine Fin.of_steps g1 (run_at hmix n hs (f b) (fun j => if j = st.H.length then b else β0 j) (fun β hβ => ?_) os out cs F m' g2)
      have h1 := h β (fun j hj => by rw [hβ j (by rw [g3]; omega), if_neg (by omega)])
      simp only [run, hst] at h1
      have hb : β st.H.length = b := by rw [hβ st.H.length (by rw [g3]; omega), if_pos rfl]
      rw [hb] at h1
      exact h1
/-- A run is worked out by computing. -/
theorem run_good {C : Cfg} (hmix : C.P.follows .mixedOrders = true) {fn : Nat} {Q : List (Nat × Obj) → Value → Prop} (n : Nat) (hs : List Hint) {st : St} (h : ∀ β : Nat → Nat, (run C β n hs st).vc ∧ eqsOk (run C β n hs st).eqs ∧ Good C fn Q (run C β n hs st).st) : Good C fn Q st :=
  run_at hmix n hs st (fun _ => 0) fun β _ => h β
end Go.Sx

/- The symbolic executor 'Sx': operations that are told from outside (append, copy, maps, calls of functions that have a contract). -/
namespace Go.Sx
open Go

/-- What the machine draws: a block, a number, cells, a frozen range. -/
structure Orc where
  b : Nat
  x : Nat
  tl : List Value
  fz : Nat × Nat
structure PRes where
  H : Hp
  v : SV
inductive PR
  | det (r : PRes) (vc : Prop)
  | new (f : Orc → PRes) (eqs : List (SV × SV))
  | no
structure LCfg where
  C : Cfg
  prim : Hp → Fr → Op → PR
inductive SR2 where
  | go (st : St) (hs : List Hint) (vc : Prop) (eqs : List (SV × SV))
  | new (f : Orc → St × Prop × List (SV × SV))
  | stop
def primReg (L : LCfg) (H : Hp) (fn nt : Nat) (fr : Fr) (ops : Array Oper) (i : Nat) (o : Oper) (rest : List Oper) (dec : List (Nat × Bool)) (k : List SItem) (stk : List SF) (hs : List Hint) : SR2 :=
  match guardQ ops.toList fr dec o with
  | some true => match L.prim H fr o.op with
    | .det r vc => .go ⟨r.H, ⟨fn, nt, putD fr nt o.dst r.v, .reg ops (i + 1) rest (decPut dec nt o.dst) :: k⟩, stk⟩ hs vc []
    | .new f eqs => .new fun x => (⟨(f x).H, ⟨fn, nt, putD fr nt o.dst (f x).v, .reg ops (i + 1) rest (decPut dec nt o.dst) :: k⟩, stk⟩, True, eqs)
    | .no => .stop
  | _ => .stop
def primBack (C : Cfg) (fn nt : Nat) (fr : Fr) (ops : Array Oper) (x : Nat) (r : List Nat) (dec : List (Nat × Bool)) (k : List SItem) (stk : List SF) (p : PRes) : Option (St × Prop × List (SV × SV)) :=
  match resume C p.H ⟨fn, nt, fr, .dreg ops (x :: r) dec :: k⟩ p.v with
  | some (f', vc, eqs) => some (⟨p.H, f', stk⟩, vc, eqs)
  | none => none
def primDreg (L : LCfg) (H : Hp) (fn nt : Nat) (fr : Fr) (ops : Array Oper) (x : Nat) (r : List Nat) (dec : List (Nat × Bool)) (k : List SItem) (stk : List SF) (hs : List Hint) : SR2 :=
  match nthO ops.toList x with
  | none => .stop
  | some o => match guardQ ops.toList fr dec o with
    | some true => match putB nt o.dst && Nat.beq (clsOf L.C.P o) 2 && earlyB L.C.P L.C.globs H fr ops.toList nt (x :: r) r with
      | false => .stop
      | true => match L.prim H fr o.op with
        | .det p vc => match primBack L.C fn nt fr ops x r dec k stk p with
          | some (st', vc', eqs) => .go st' hs (vc ∧ vc') eqs
          | none => .stop
        | .new f eqs => .new fun y => match primBack L.C fn nt fr ops x r dec k stk (f y) with
          | some (st', vc, eqs') => (st', vc, eqs ++ eqs')
          | none => (⟨(f y).H, ⟨fn, nt, fr, []⟩, stk⟩, False, [])
        | .no => .stop
    | _ => .stop
def primStep (L : LCfg) (st : St) (hs : List Hint) : SR2 :=
  match st with
  | ⟨H, ⟨fn, nt, fr, todo⟩, stk⟩ => match todo with
    | .reg ops i (o :: rest) dec :: k => primReg L H fn nt fr ops i o rest dec k stk hs
    | .dreg ops (x :: r) dec :: k => primDreg L H fn nt fr ops x r dec k stk hs
    | _ => .stop
def step2 (L : LCfg) (st : St) (hs : List Hint) : SR2 :=
  match step1 L.C st hs with
  | .go st' hs' vc eqs => .go st' hs' vc eqs
  | .new f => .new fun o => (f o.b, True, [])
  | .stop => primStep L st hs
/-- A run, as far as it comes. -/
def runX (L : LCfg) (β : Nat → Orc) : Nat → List Hint → St → Res
  | 0, _, st => ⟨True, [], st⟩
  | n + 1, hs, st => match step2 L st hs with
    | .go st' hs' vc eqs => match runX L β n hs' st' with
      | ⟨vc', eqs', st''⟩ => ⟨vc ∧ vc', eqs ++ eqs', st''⟩
    | .new f => match f (β st.H.length) with
      | (st', vc, eqs) => match runX L β n hs st' with
        | ⟨vc', eqs', st''⟩ => ⟨vc ∧ vc', eqs ++ eqs', st''⟩
    | .stop => ⟨True, [], st⟩

/-- The machine comes through an operation, and what is owned then. -/
def OpOk (P : Program) (H : Hp) (F : List (Nat × Obj)) (w : World) (a : Act) (o : Oper) (R : PRes → Prop) : Prop :=
  ∀ (b : Frame) (k : List Item) (cs : List Frame) (ops : Array Oper) (i : Nat) (rest : List Nat), ops[i]? = some o → Region.wanted o (yielded ops a.tmps) = true →
    ∃ r w', R r ∧ Steps P (lone (b.at a (.inRegion ops (i :: rest) :: k)) cs w) (lone (b.at (a.put o.dst (r.v.den r.H.ids)) (.inRegion ops rest :: k)) cs w') ∧
      OwnL w' (r.H.den ++ F) ∧ r.H.ok ∧ Ext H r.H ∧ r.v.ok r.H.length r.H.ids ∧ w'.os = w.os ∧ w'.output = w.output
/-- What is told of an operation. -/
def PrOk (P : Program) (H : Hp) (F : List (Nat × Obj)) (w : World) (a : Act) (o : Oper) : PR → Prop
  | .det r vc => vc → OpOk P H F w a o (· = r) ∧ r.H.length = H.length
  | .new f eqs => (eqsOk eqs → OpOk P H F w a o (fun r => ∃ y, r = f y)) ∧ ∀ y, (f y).H.length = H.length + 1
  | .no => True
/-- What is told from outside is what the machine does. -/
def PrimOk (L : LCfg) : Prop :=
  ∀ (e : Env) (o : Oper) (F : List (Nat × Obj)) (w : World), e.Ok → e.gl = L.C.globs → inX e.X o.op.operands.toList → OwnL w (e.H.den ++ F) →
    PrOk L.C.P e.H F w e.a o (L.prim e.H e.fr o.op)

section
variable {L : LCfg} {os : Os} {out : Array (Nat × ByteArray)} {cs : List Frame} {F : List (Nat × Obj)} {m : Machine}
/-- A step that makes something new: one of its outcomes is what the machine does, if that one's conditions hold. -/
def NewOk (L : LCfg) (os : Os) (out : Array (Nat × ByteArray)) (cs : List Frame) (F : List (Nat × Obj)) (m : Machine) (st : St) (f : Orc → St × Prop × List (SV × SV)) : Prop :=
  (∃ y, (f y).2.1 → eqsOk (f y).2.2 → Goes L.C.P os out cs F m (f y).1) ∧ ∀ y, (f y).1.H.length = st.H.length + 1

def R2Ok (L : LCfg) (os : Os) (out : Array (Nat × ByteArray)) (cs : List Frame) (F : List (Nat × Obj)) (m : Machine) (st : St) : SR2 → Prop
  | .go st' _ vc eqs => vc → eqsOk eqs → Goes L.C.P os out cs F m st' ∧ st'.H.length = st.H.length
  | .new f => NewOk L os out cs F m st f
  | .stop => True
theorem primReg_sound (hP : PrimOk L) {H : Hp} {fn nt : Nat} {fr : Fr} {ops : Array Oper} {i : Nat} {o : Oper} {rest : List Oper} {dec : List (Nat × Bool)} {k : List SItem} {stk : List SF} {hs : List Hint}
    (hm : MIs L.C.P os out cs F ⟨H, ⟨fn, nt, fr, .reg ops i (o :: rest) dec :: k⟩, stk⟩ m) :
    R2Ok L os out cs F m ⟨H, ⟨fn, nt, fr, .reg ops i (o :: rest) dec :: k⟩, stk⟩ (primReg L H fn nt fr ops i o rest dec k stk hs) := by
  obtain ⟨tmps, k', cs1, E2, w, rfl, h1, h2, ho, hr, hk, hd, hon, hst, hw, hok, hos, hout⟩ := reg_state hm
  have he := mkEnv_ok (C := L.C) (X := fun _ => True) hok h2 hon
  have hp := hP _ o _ w he rfl (fun _ _ => trivial) hw
  unfold primReg
  split
  · rename_i hg
    have hwant := guardQ_sound hg hon (fun _ _ => trivial) hd
    simp only [mkEnv] at hp
    split
    · rename_i r vc hpr
      rw [hpr] at hp
      intro hvc _
      obtain ⟨g1, g2⟩ := hp hvc
      obtain ⟨r', w', rfl, hs1, s2, s3, s4, s5, s6, s7⟩ := g1 (bF fn) k' (cs1 ++ cs) ops i _ ho hwant
      exact ⟨⟨_, hs1, reg_done h1 h2 hr hk hd hon hst s4 s2 s3 (s6.trans hos) (s7.trans hout) s5 rfl⟩, g2⟩
    · rename_i f eqs hpr
      rw [hpr] at hp
      obtain ⟨g1, g2⟩ := hp
      refine ⟨?_, fun y => g2 y⟩
      by_cases hq : eqsOk eqs
      · obtain ⟨r', w', ⟨y, rfl⟩, hs1, s2, s3, s4, s5, s6, s7⟩ := g1 hq (bF fn) k' (cs1 ++ cs) ops i _ ho hwant
        exact ⟨y, fun _ _ => ⟨_, hs1, reg_done h1 h2 hr hk hd hon hst s4 s2 s3 (s6.trans hos) (s7.trans hout) s5 rfl⟩⟩
      · exact ⟨⟨0, 0, [], (0, 0)⟩, fun _ h => absurd h hq⟩
    · trivial
  · trivial
theorem primDreg_sound (hP : PrimOk L) {H : Hp} {fn nt : Nat} {fr : Fr} {ops : Array Oper} {x : Nat} {r : List Nat} {dec : List (Nat × Bool)} {k : List SItem} {stk : List SF} {hs : List Hint}
    (hm : MIs L.C.P os out cs F ⟨H, ⟨fn, nt, fr, .dreg ops (x :: r) dec :: k⟩, stk⟩ m) :
    R2Ok L os out cs F m ⟨H, ⟨fn, nt, fr, .dreg ops (x :: r) dec :: k⟩, stk⟩ (primDreg L H fn nt fr ops x r dec k stk hs) := by
  obtain ⟨tmps, l, k', E1, cs1, E2, w, rfl, hk, hd, hds, hst, hos, hout⟩ := dreg_state hm
  unfold primDreg
  split
  · trivial
  rename_i o hox
  have ho : ops.toList[x]? = some o := by rw [← nthO_eq]; exact hox
  have hoh := ord_head hds.dr.ord ho
  split
  · rename_i hg
    split
    · trivial
    rename_i hc3
    simp only [Bool.and_eq_true] at hc3
    obtain ⟨⟨hb, hc⟩, hearly⟩ := hc3
    have hc := Nat.eq_of_beq_eq_true hc
    have hc0 : clsOf L.C.P o ≠ 0 := by rw [hc]; simp
    have hxl : x ∈ l := hds.dr.inl ho (by rw [hc]; simp)
    obtain ⟨l', tmps', E', w', hds', ho1, ho2, hsteps⟩ := hds.advance (hoh.2.1 hc0) hearly (bF fn) k' (cs1 ++ cs) hxl
    have hon := hds'.reads ho hoh.1
    have hwant := wantQ hg hon hd
    have he := mkEnv_ok (C := L.C) hds.hok hds.frok hon
    have hp := hP _ o _ w' he rfl (fun t ht => List.mem_append_left _ ht) hds'.own
    simp only [mkEnv] at hp
    have fin : ∀ {p : PRes} {st' : St} {vc : Prop} {eqs : List (SV × SV)} {w2 : World}, primBack L.C fn nt fr ops x r dec k stk p = some (st', vc, eqs) → vc → eqsOk eqs →
        Steps L.C.P (lone ((bF fn).at ⟨tmps', []⟩ (.inRegion ops (x :: l') :: k')) (cs1 ++ cs) w') (lone ((bF fn).at ((⟨tmps', []⟩ : Act).put o.dst (p.v.den p.H.ids)) (.inRegion ops l' :: k')) (cs1 ++ cs) w2) →
        OwnL w2 (p.H.den ++ (E' ++ (E2 ++ F))) → p.H.ok → Ext H p.H → p.v.ok p.H.length p.H.ids → w2.os = w'.os → w2.output = w'.output →
        Goes L.C.P os out cs F (lone ((bF fn).at ⟨tmps, []⟩ (.inRegion ops l :: k')) (cs1 ++ cs) w) st' ∧ st'.H = p.H := by
      intro p st' vc eqs w2 hpb hvc heqs hs1 s2 s3 s4 s5 s6 s7
      unfold primBack at hpb
      split at hpb
      · rename_i f' vc2 eqs2 hre
        simp only [Option.some.injEq, Prod.mk.injEq] at hpb
        obtain ⟨rfl, rfl, rfl⟩ := hpb
        obtain ⟨_, hms⟩ := dreg_loud (cs := cs) ho hre hvc heqs hds'.size (s4.frok hds'.frok) s5 hk (s4.decok hds.frok hd) (s4.dr hds'.frok hds'.dr) s3 (hst.ext s4) s2 (s6.trans (ho1.trans hos)) (s7.trans (ho2.trans hout))
        exact ⟨⟨_, hsteps.trans hs1, hms⟩, rfl⟩
      · simp at hpb
    split
    · rename_i p vc hpr
      rw [hpr] at hp
      split
      · rename_i st' vc' eqs hpb
        intro hvc heqs
        obtain ⟨g1, g2⟩ := hp hvc.1
        obtain ⟨r', w2, rfl, hs1, s2, s3, s4, s5, s6, s7⟩ := g1 (bF fn) k' (cs1 ++ cs) ops x l' (getL ho) hwant
        obtain ⟨q1, q2⟩ := fin hpb hvc.2 heqs hs1 s2 s3 s4 s5 s6 s7
        exact ⟨q1, by rw [q2]; exact g2⟩
      · trivial
    · rename_i f eqs0 hpr
      rw [hpr] at hp
      obtain ⟨g1, g2⟩ := hp
      refine ⟨?_, fun y => ?_⟩
      · by_cases hq : eqsOk eqs0
        · obtain ⟨r', w2, ⟨y, rfl⟩, hs1, s2, s3, s4, s5, s6, s7⟩ := g1 hq (bF fn) k' (cs1 ++ cs) ops x l' (getL ho) hwant
          refine ⟨y, fun hvc heqs => ?_⟩
          cases hpb : primBack L.C fn nt fr ops x r dec k stk (f y) with
          | none => simp only [hpb] at hvc
          | some q =>
            obtain ⟨st', vc, eqs⟩ := q
            simp only [hpb] at hvc heqs ⊢
            exact (fin hpb hvc (fun p hp => heqs p (by simp [hp])) hs1 s2 s3 s4 s5 s6 s7).1
        · refine ⟨⟨0, 0, [], (0, 0)⟩, fun hvc heqs => absurd (fun p hp => ?_) hq⟩
          cases hpb : primBack L.C fn nt fr ops x r dec k stk (f ⟨0, 0, [], (0, 0)⟩) with
          | none => simp only [hpb] at hvc
          | some q =>
            obtain ⟨st', vc, eqs⟩ := q
            simp only [hpb] at heqs
            exact heqs p (by simp [hp])
      · cases hpb : primBack L.C fn nt fr ops x r dec k stk (f y) with
        | none => simp only [hpb]; exact g2 y
        | some q =>
          obtain ⟨st', vc, eqs⟩ := q
          unfold primBack at hpb
          split at hpb
          · simp only [Option.some.injEq, Prod.mk.injEq] at hpb
            obtain ⟨rfl, rfl, rfl⟩ := hpb
            rename_i hre
            simp only [primBack, hre]
            exact g2 y
          · simp at hpb
    · trivial
  · trivial
end
end Go.Sx

/- The symbolic executor 'Sx': runs with operations that are told from outside; contracts. -/
namespace Go.Sx
open Go

theorem step2_sound {L : LCfg} (hmix : L.C.P.follows .mixedOrders = true) (hP : PrimOk L) {st : St} {hs : List Hint} {os : Os} {out : Array (Nat × ByteArray)} {cs : List Frame} {F : List (Nat × Obj)} {m : Machine} (hm : MIs L.C.P os out cs F st m) :
    R2Ok L os out cs F m st (step2 L st hs) := by
  unfold step2
  split
  · rename_i st' hs' vc eqs h
    exact fun hvc heqs => step1_go hmix h hvc heqs hm
  · rename_i f h
    obtain ⟨b, h1, h2⟩ := step1_new h hm
    exact ⟨⟨⟨b, 0, [], (0, 0)⟩, fun _ _ => h1⟩, fun y => h2 y.b⟩
  · obtain ⟨H, ⟨fn, nt, fr, todo⟩, stk⟩ := st
    unfold primStep
    simp only
    split
    · exact primReg_sound hP hm
    · exact primDreg_sound hP hm
    · trivial
theorem runX_at {L : LCfg} (hmix : L.C.P.follows .mixedOrders = true) (hP : PrimOk L) {fn : Nat} {Q : List (Nat × Obj) → Value → Prop} : ∀ (n : Nat) (hs : List Hint) (st : St) (β0 : Nat → Orc),
    (∀ β, (∀ j, j < st.H.length → β j = β0 j) → (runX L β n hs st).vc ∧ eqsOk (runX L β n hs st).eqs ∧ Good L.C fn Q (runX L β n hs st).st) → Good L.C fn Q st
  | 0, hs, st, β0, h => (h β0 (fun _ _ => rfl)).2.2
  | n + 1, hs, st, β0, h => by
    intro os out cs F m hm
    have hs2 := step2_sound hmix hP (hs := hs) hm
    cases hst : step2 L st hs with
    | stop =>
      have := (h β0 (fun _ _ => rfl)).2.2
      simp only [runX, hst] at this
      exact this os out cs F m hm
    | go st' hs' vc eqs =>
      have h0 := h β0 (fun _ _ => rfl)
      simp only [runX, hst] at h0
      rw [hst] at hs2
      obtain ⟨⟨m', g1, g2⟩, g3⟩ := hs2 h0.1.1 (fun p hp => h0.2.1 p (by simp [hp]))
      refine Fin.of_steps g1 (runX_at hmix hP n hs' st' β0 (fun β hβ => ?_) os out cs F m' g2)
      have h1 := h β (fun j hj => hβ j (by omega))
      simp only [runX, hst] at h1
      exact ⟨h1.1.2, fun p hp => h1.2.1 p (by simp [hp]), h1.2.2⟩
    | new f =>
      rw [hst] at hs2
      obtain ⟨⟨y, g1⟩, g3⟩ := hs2
      have hy : ∀ β, (∀ j, j < st.H.length → β j = β0 j) → β st.H.length = y → (f y).2.1 ∧ eqsOk (f y).2.2 ∧ (runX L β n hs (f y).1).vc ∧ eqsOk (runX L β n hs (f y).1).eqs ∧ Good L.C fn Q (runX L β n hs (f y).1).st := by
        intro β hβ hb
        have h1 := h β hβ
        simp only [runX, hst, hb] at h1
        exact ⟨h1.1.1, fun p hp => h1.2.1 p (by simp [hp]), h1.1.2, fun p hp => h1.2.1 p (by simp [hp]), h1.2.2⟩
      have h0 := hy (fun j => if j = st.H.length then y else β0 j) (fun j hj => if_neg (by omega)) (if_pos rfl)
      obtain ⟨m', q1, q2⟩ := g1 h0.1 h0.2.1
      refine Fin.of_steps q1 (runX_at hmix hP n hs (f y).1 (fun j => if j = st.H.length then y else β0 j) (fun β hβ => ?_) os out cs F m' q2)
      have h1 := hy β (fun j hj => by rw [hβ j (by rw [g3]; omega), if_neg (by omega)]) (by rw [hβ st.H.length (by rw [g3]; omega), if_pos rfl])
      exact h1.2.2
/-- A run is worked out by computing. -/
theorem runX_good {L : LCfg} (hmix : L.C.P.follows .mixedOrders = true) (hP : PrimOk L) {fn : Nat} {Q : List (Nat × Obj) → Value → Prop} (n : Nat) (hs : List Hint) {st : St} (h : ∀ β : Nat → Orc, (runX L β n hs st).vc ∧ eqsOk (runX L β n hs st).eqs ∧ Good L.C fn Q (runX L β n hs st).st) : Good L.C fn Q st :=
  runX_at hmix hP n hs st (fun _ => ⟨0, 0, [], (0, 0)⟩) fun β _ => h β

/-! ### Contracts -/
/-- A function's contract: called with these values in a memory that holds L, it hands back v, and the memory holds what Q says; all else is as it was. -/
def FnOk (P : Program) (f : Nat) (args : Array Value) (L : List (Nat × Obj)) (Q : List (Nat × Obj) → Value → Prop) : Prop :=
  ∀ (w : World) (F : List (Nat × Obj)), OwnL w (L ++ F) → ∀ cs, Fin P w.os w.output cs F f Q (lone (Frame.enter P f args .normal) cs w)
theorem FnOk.mono {P : Program} {f : Nat} {args : Array Value} {L : List (Nat × Obj)} {Q Q' : List (Nat × Obj) → Value → Prop} (h : FnOk P f args L Q) (hq : ∀ L v, Q L v → Q' L v) : FnOk P f args L Q' := by
  intro w F hw cs
  obtain ⟨v, w', fr, L', h1, h2⟩ := h w F hw cs
  exact ⟨v, w', fr, L', hq _ _ h1, h2⟩
/-- A contract, worked out from the function's entry. -/
theorem fnOk_of_good {C : Cfg} {f n : Nat} {c : Code} (hc : enterQ C.P f = some (c, n)) {H : Hp} {args : List SV} (hok : H.ok) (hargs : SV.oks H.length H.ids args) (hle : args.length ≤ n) {Q : List (Nat × Obj) → Value → Prop}
    (h : Good C f Q ⟨H, ⟨f, n, mkFr 0 args .e, [.code c]⟩, []⟩) : FnOk C.P f (SV.dens H.ids args).toArray H.den Q := by
  intro w F hw cs
  obtain ⟨fc, hf1, hf2, hf3, hf4⟩ := enterQ_sound hc
  rw [enter_at hf1 hf2 hf3]
  refine h w.os w.output cs F _ ⟨(SV.dens H.ids args).toArray ++ Array.replicate (n - (SV.dens H.ids args).toArray.size) undef, [.code c], [], [], [], w, rfl, ?_, .nil, by simpa using hw, hok, rfl, rfl⟩
  refine ⟨?_, ?_, ?_⟩
  · simp [dens_eq]; omega
  · intro t sv ht
    rcases mkFr_get ht with ⟨j, h1, h2⟩ | h
    · exact (oks_iff _ _ _).1 hargs sv (List.mem_of_getElem? h1)
    · simp [Tr.get] at h
  · refine ⟨.cons (.code c) .nil, rfl, fun t sv _ ht => ?_⟩
    rcases mkFr_get ht with ⟨j, h1, h2⟩ | h
    · have hj : j < args.length := (List.getElem?_eq_some_iff.1 h1).1
      rw [Nat.zero_add] at h2; subst h2
      rw [Array.getElem?_append_left (by simp [dens_eq]; exact hj)]
      simp [dens_eq, h1]
    · simp [Tr.get] at h
/-- The end: the function hands back what is said. -/
theorem good_done {C : Cfg} {fn nt : Nat} {H : Hp} {fr : Fr} {k : List SItem} {Q : List (Nat × Obj) → Value → Prop} (hk : atEnd k = true) {v : SV} {vc : Prop} (hv : retV C.P H fn fr = some (v, vc)) (hvc : vc) (hQ : Q H.den (v.den H.ids)) : Good C fn Q ⟨H, ⟨fn, nt, fr, k⟩, []⟩ := by
  intro os out cs F m hm
  have hno : (∀ ops r dec k0, k ≠ .dreg ops r dec :: k0) ∧ (∀ ops i r dec k0, k ≠ .reg ops i r dec :: k0) := by
    constructor <;> intros <;> intro e <;> subst e <;> simp [atEnd] at hk
  obtain ⟨tmps, k', cs1, E2, w, rfl, hr, h2, h3, h4, h5, h6, h7, h8, h9⟩ := code_state hno hm
  cases h5
  obtain ⟨f, hf1, hf2, hf3⟩ := retV_sound h7 h3 h4 h6 hv hvc
  rcases atEnd_spec hk hr with rfl | ⟨k0, rfl⟩
  · exact ⟨_, w, _, H.den, hQ, by simpa using h6, h8, h9, .one step_end, rfl, rfl, rfl, rfl, f, hf1, hf2⟩
  · exact ⟨_, w, _, H.den, hQ, by simpa using h6, h8, h9, .one step_ret, rfl, rfl, rfl, rfl, f, hf1, hf2⟩
/-- The kit's contract. -/
theorem FnOk.calls {P : Program} {f : Nat} {args : Array Value} {L : List (Nat × Obj)} {Q : List (Nat × Obj) → Value → Prop} (h : FnOk P f args L Q) {w : World} {F : List (Nat × Obj)} (hw : OwnL w (L ++ F)) :
    Calls P f args w fun e w' => ∃ v L', e = .returned v ∧ Q L' v ∧ OwnL w' (L' ++ F) ∧ w'.os = w.os ∧ w'.output = w.output := by
  intro cs
  obtain ⟨v, w', fr, L', h1, h2, h3, h4, h5, h6, h7⟩ := h w F hw cs
  exact ⟨.returned v, w', fr, ⟨v, L', rfl, h1, h2, h3, h4⟩, h5, h6, h7⟩
end Go.Sx

/- The symbolic executor 'Sx': maps whose keys are known: what changes them. -/
namespace Go.Sx
open Go

section
variable {P : Program} {H : Hp} {F : List (Nat × Obj)} {w w' : World} {a : Act} {o : Oper}
theorem opok_value {r : PRes} (h : (execOp a.eval o).run P w = .ok (.value (r.v.den r.H.ids)) w') (h1 : OwnL w' (r.H.den ++ F)) (h2 : r.H.ok) (h3 : Ext H r.H) (h4 : r.v.ok r.H.length r.H.ids) (h5 : w'.os = w.os) (h6 : w'.output = w.output) {R : PRes → Prop} (hR : R r) : OpOk P H F w a o R :=
  fun _ _ _ _ _ _ ho hw => ⟨r, w', hR, .one (step_value ho hw h), h1, h2, h3, h4, h5, h6⟩
theorem opok_skip {r : PRes} (hv : r.v = .undef) (h : (execOp a.eval o).run P w = .ok .skip w') (h1 : OwnL w' (r.H.den ++ F)) (h2 : r.H.ok) (h3 : Ext H r.H) (h5 : w'.os = w.os) (h6 : w'.output = w.output) {R : PRes → Prop} (hR : R r) : OpOk P H F w a o R := by
  intro b k cs ops i rest ho hw
  refine ⟨r, w', hR, .one ?_, h1, h2, h3, by rw [hv]; simp [SV.ok], h5, h6⟩
  rw [step_skipped ho hw h, hv, undef_den]
end
/-- Two keys are the same, to the last bit. -/
def same1 : SV → SV → Bool
  | .int k x, .int k' y | .int k x, .lit k' y | .lit k x, .int k' y | .lit k x, .lit k' y => kEq k k' && (x == y)
  | .str a, .str b => a == b
  | .bool a, .bool b | .bool a, .blit b | .blit a, .bool b | .blit a, .blit b => a == b
  | _, _ => false
def sameL : List SV → List SV → Bool
  | [], [] => true
  | x :: xs, y :: ys => same1 x y && sameL xs ys
  | _, _ => false
def sameB (x y : SV) : Bool :=
  match x with
  | .agg xs => match y with
    | .agg ys => sameL xs ys
    | _ => false
  | x => same1 x y
theorem bytes_refl (l : List UInt8) : ((⟨l.toArray⟩ : ByteArray) == ⟨l.toArray⟩) = true := by
  have : ((⟨l.toArray⟩ : ByteArray) == ⟨l.toArray⟩) = (l.toArray == l.toArray) := rfl
  rw [this]; simp
theorem same1_sound {ids : Nat → Nat} {n : Nat} {x y : SV} (h : same1 x y = true) : Instr.sameBits n (x.den ids) (y.den ids) = true := by
  unfold same1 at h
  split at h
  all_goals first
    | (simp only [Bool.and_eq_true, beq_iff_eq] at h
       obtain ⟨h1, rfl⟩ := h
       have := kEq_eq h1; subst this
       cases n <;> simp [SV.den, Instr.sameBits])
    | (simp only [beq_iff_eq] at h; subst h; cases n <;> simp [SV.den, Instr.sameBits, bytes_refl])
    | simp at h
theorem sameL_sound {ids : Nat → Nat} {n : Nat} : ∀ {xs ys : List SV}, sameL xs ys = true → (SV.dens ids xs).length = (SV.dens ids ys).length ∧ ((SV.dens ids xs).zip (SV.dens ids ys)).all (fun (x, y) => Instr.sameBits n x y) = true
  | [], [], _ => by simp [SV.dens]
  | x :: xs, y :: ys, h => by
    simp only [sameL, Bool.and_eq_true] at h
    have h1 := same1_sound (ids := ids) (n := n) h.1
    have h2 := sameL_sound (ids := ids) (n := n) h.2
    simp only [SV.dens, List.length_cons, List.zip_cons_cons, List.all_cons, h1, h2.1, h2.2, Bool.and_self, and_self]
  | [], _ :: _, h => by simp [sameL] at h
  | _ :: _, [], h => by simp [sameL] at h
theorem sameB_sound {ids : Nat → Nat} {x y : SV} (h : sameB x y = true) (n : Nat) : Instr.sameBits (n + 1) (x.den ids) (y.den ids) = true := by
  unfold sameB at h
  split at h
  · split at h
    · have := sameL_sound (ids := ids) (n := n) h
      simp only [SV.den, Instr.sameBits]
      simpa using this
    · simp at h
  · exact same1_sound h

def modE (key val : SV) : Nat → List (SV × SV × Nat) → List (SV × SV × Nat)
  | _, [] => []
  | 0, (_, _, n) :: r => (key, val, n) :: r
  | i + 1, x :: r => x :: modE key val i r
def delE : Nat → List (SV × SV × Nat) → List (SV × SV × Nat)
  | _, [] => []
  | 0, _ :: r => r
  | i + 1, x :: r => x :: delE i r
def mapUpdP (P : Program) (H : Hp) (t : TypeId) (m key val : SV) : PR :=
  match P.underlying t with
  | some (.map kt _) => match m with
    | .mapp k => match nthO H k with
      | some (b, some (.mapc es c)) => match ckT P kt key with
        | true => match findC P kt key es 0 with
          | some (some (i, _)) => match nthO es i with
            | some (k0, _) => match sameB k0 key with
              | true => .det ⟨updL H k (b, some (.mapc (modE key val i es) c)), .undef⟩ True
              | false => .no
            | none => .no
          | some none => .det ⟨updL H k (b, some (.mapc (es ++ [(key, val, c)]) (c + 1))), .undef⟩ True
          | none => .no
        | false => .no
      | _ => .no
    | _ => .no
  | _ => .no
def delP (P : Program) (H : Hp) (t : TypeId) (m key : SV) : PR :=
  match P.underlying t with
  | some (.map kt _) => match ckT P kt key with
    | true => match m with
      | .nilmap => .det ⟨H, .tup []⟩ True
      | .mapp k => match nthO H k with
        | some (b, some (.mapc es c)) => match findC P kt key es 0 with
          | some (some (i, _)) => .det ⟨updL H k (b, some (.mapc (delE i es) c)), .tup []⟩ True
          | some none => .det ⟨H, .tup []⟩ True
          | none => .no
        | _ => .no
      | _ => .no
    | false => .no
  | _ => .no
theorem modE_map (ids : Nat → Nat) (key val : SV) : ∀ (es : List (SV × SV × Nat)) (i : Nat), (modE key val i es).map (entV ids) = (es.map (entV ids)).modify i (fun e => { e with key := key.den ids, val := val.den ids })
  | [], i => by cases i <;> simp [modE]
  | (k, v, n) :: r, 0 => by simp [modE, entV]
  | x :: r, i + 1 => by simp [modE, modE_map ids key val r i]
theorem modE_ok {N : Nat} {ids : Nat → Nat} {key val : SV} (h1 : key.ok N ids) (h2 : val.ok N ids) : ∀ {es : List (SV × SV × Nat)} {i : Nat}, (∀ x ∈ es, x.1.ok N ids ∧ x.2.1.ok N ids) → ∀ x ∈ modE key val i es, x.1.ok N ids ∧ x.2.1.ok N ids
  | [], i, _ => by cases i <;> simp [modE]
  | (k, v, n) :: r, 0, h => by
    intro x hx
    simp only [modE, List.mem_cons] at hx
    rcases hx with rfl | hx
    · exact ⟨h1, h2⟩
    · exact h x (by simp [hx])
  | y :: r, i + 1, h => by
    intro x hx
    simp only [modE, List.mem_cons] at hx
    rcases hx with rfl | hx
    · exact h _ (by simp)
    · exact modE_ok h1 h2 (fun z hz => h z (by simp [hz])) x hx
theorem delE_map (ids : Nat → Nat) : ∀ (es : List (SV × SV × Nat)) (i : Nat), (delE i es).map (entV ids) = (es.map (entV ids)).eraseIdx i
  | [], i => by cases i <;> simp [delE]
  | _ :: r, 0 => by simp [delE]
  | x :: r, i + 1 => by simp [delE, delE_map ids r i]
theorem delE_mem : ∀ {es : List (SV × SV × Nat)} {i : Nat} {x : SV × SV × Nat}, x ∈ delE i es → x ∈ es
  | [], i, x, h => by cases i <;> simp [delE] at h
  | _ :: r, 0, x, h => by simp [delE] at h; simp [h]
  | y :: r, i + 1, x, h => by
    simp only [delE, List.mem_cons] at h
    rcases h with rfl | h
    · simp
    · simp [delE_mem h]
theorem updL_same {α : Type} : ∀ {l : List α} {k : Nat} {x : α}, nthO l k = some x → updL l k x = l
  | [], k, x, h => by simp [nthO] at h
  | y :: r, 0, x, h => by simp only [nthO, Option.some.injEq] at h; subst h; rfl
  | y :: r, k + 1, x, h => by simp only [nthO] at h; simp [updL, updL_same h]
/-- A map's object is another one now. -/
theorem own_set {w : World} {H : Hp} {F : List (Nat × Obj)} (hw : OwnL w (H.den ++ F)) {k b : Nat} {es : List (SV × SV × Nat)} {c : Nat} (hk : nthO H k = some (b, some (.mapc es c))) (hok : H.ok) (es' : List (SV × SV × Nat)) (c' : Nat) (hes : ∀ x ∈ es', x.1.ok H.length H.ids ∧ x.2.1.ok H.length H.ids) :
    ∃ w', (∀ P, (setObj (H.ids k) (.map (es'.map (entV H.ids)).toArray c')).run P w = .ok () w') ∧ OwnL w' (Hp.den (updL H k (b, some (.mapc es' c'))) ++ F) ∧ Hp.ok (updL H k (b, some (.mapc es' c'))) ∧ Ext H (updL H k (b, some (.mapc es' c'))) ∧ w'.os = w.os ∧ w'.output = w.output := by
  have hb := own_mapc hw hk
  rw [ids_of hk] at hb
  obtain ⟨A, B, hAB, hAw⟩ := own_split hw hk
  refine ⟨{ w with heap := w.heap.setIfInBounds b (.map (es'.map (entV H.ids)).toArray c') }, fun P => ?_, ?_, ok_updL hok hk hes, ext_same (ids_updL hk) (length_updL _ _ _), rfl, rfl⟩
  · rw [ids_of hk]; simp [setObj, Sem.run, hb]
  · rw [hAB]
    have h0 : (SO.mapc es c).den H.ids b = [(b, .map (es.map (entV H.ids)).toArray c)] := by simp [SO.den, entV]
    have h1 : (SO.mapc es' c').den H.ids b = [(b, .map (es'.map (entV H.ids)).toArray c')] := by simp [SO.den, entV]
    rw [h0] at hAw
    rw [h1]
    have := OwnL.upd (A := A) (B := B ++ F) (by simpa using hAw) (w' := { w with heap := w.heap.setIfInBounds b (.map (es'.map (entV H.ids)).toArray c') }) rfl
    simpa using this

theorem mapUpd_sound {P : Program} {e : Env} (he : e.Ok) {w : World} {F : List (Nat × Obj)} (hw : OwnL w (e.H.den ++ F)) {o : Oper} {t : TypeId} {x y z : Operand} (ho : o.op = .mapUpdate t x y z) {m key val : SV} (hm : e.a.eval x = m.den e.H.ids ∧ m.ok e.H.length e.H.ids) (hk : e.a.eval y = key.den e.H.ids ∧ key.ok e.H.length e.H.ids)
    (hv : e.a.eval z = val.den e.H.ids ∧ val.ok e.H.length e.H.ids) : PrOk P e.H F w e.a o (mapUpdP P e.H t m key val) := by
  have hex : execOp e.a.eval o = (do Instr.mapUpdate t (m.den e.H.ids) (key.den e.H.ids) (val.den e.H.ids); pure .skip) := by
    obtain ⟨dst, op, type, pos, after, guard⟩ := o
    simp only at ho; subst ho
    simp only [execOp, hm.1, hk.1, hv.1]
  unfold mapUpdP
  split
  · rename_i kt el hu
    split
    · rename_i k
      split
      · rename_i b es c hkk
        have hmo := he.hok k b _ hkk
        have hb := own_mapc hw hkk
        split
        · rename_i hck
          have hc1 : (Instr.checkKey false 10000 kt (key.den e.H.ids)).run P w = .ok () w := ck_sound hck hk.2 false w
          have hgo : (getObj (e.H.ids k)).run P w = .ok (.map (es.map (entV e.H.ids)).toArray c) w := by simp [getObj, Sem.run, hb]
          split
          · rename_i i v hf
            have hfk := findKey_run hck hk.2 hf hmo w
            split
            · rename_i k0 vn hi
              split
              · rename_i hs
                intro _
                obtain ⟨w', s1, s2, s3, s4, s5, s6⟩ := own_set hw hkk he.hok (modE key val i es) c (modE_ok hk.2 hv.2 hmo)
                refine ⟨?_, length_updL _ _ _⟩
                refine opok_skip (r := ⟨_, .undef⟩) rfl ?_ s2 s3 s4 s5 s6 rfl
                rw [hex]
                rw [nthO_eq] at hi
                have hget : (es.map (entV e.H.ids)).toArray[i]? = some (entV e.H.ids (k0, vn)) := by simp [hi]
                have hst : (Instr.keyThatStays (k0.den e.H.ids) (key.den e.H.ids)).run P w = .ok (key.den e.H.ids) w := by
                  simp [Instr.keyThatStays, sameB_sound hs 9999]
                have hmod : ((es.map (entV e.H.ids)).toArray.modify i fun e' => { e' with key := key.den e.H.ids, val := val.den e.H.ids }) = ((modE key val i es).map (entV e.H.ids)).toArray := by
                  rw [modE_map]; simp
                simp only [Instr.mapUpdate, SV.den, Sem.run_bind, underlying_run hu, Result.andThen_ok, hgo, hc1, hfk, Option.map_some, hget, Option.getD_some]
                simp only [entV, hst, Result.andThen_ok, hmod, s1, Sem.run_pure]
              · trivial
            · trivial
          · rename_i hf
            have hfk := findKey_run hck hk.2 hf hmo w
            intro _
            obtain ⟨w', s1, s2, s3, s4, s5, s6⟩ := own_set hw hkk he.hok (es ++ [(key, val, c)]) (c + 1) (fun x hx => by
              rcases List.mem_append.1 hx with hx | hx
              · exact hmo x hx
              · simp only [List.mem_singleton] at hx; subst hx; exact ⟨hk.2, hv.2⟩)
            refine ⟨?_, length_updL _ _ _⟩
            refine opok_skip (r := ⟨_, .undef⟩) rfl ?_ s2 s3 s4 s5 s6 rfl
            rw [hex]
            have hpush : (es.map (entV e.H.ids)).toArray.push { key := key.den e.H.ids, val := val.den e.H.ids, born := c } = ((es ++ [(key, val, c)]).map (entV e.H.ids)).toArray := by simp [entV]
            simp only [Instr.mapUpdate, SV.den, Sem.run_bind, underlying_run hu, Result.andThen_ok, hgo, hc1, hfk, Option.map_none, hpush, s1, Sem.run_pure]
          · trivial
        · trivial
      · trivial
    · trivial
  · trivial
theorem del_sound {P : Program} {e : Env} (he : e.Ok) {w : World} {F : List (Nat × Obj)} (hw : OwnL w (e.H.den ++ F)) {o : Oper} {t : TypeId} {ts : List TypeId} {m key : SV} (hm : m.ok e.H.length e.H.ids) (hk : key.ok e.H.length e.H.ids)
    (hex : execOp e.a.eval o = (do pure (.value (← Builtin.delete_ (t :: ts).toArray o.type #[m.den e.H.ids, key.den e.H.ids])))) : PrOk P e.H F w e.a o (delP P e.H t m key) := by
  unfold delP
  split
  · rename_i kt el hu
    split
    · rename_i hck
      split
      · intro _
        refine ⟨opok_value (r := ⟨_, .tup []⟩) (w' := w) ?_ hw he.hok (Ext.refl _) (by simp [SV.ok, SV.oks]) rfl rfl rfl, rfl⟩
        have hc1 : (Instr.checkKey true 10000 kt (key.den e.H.ids)).run P w = .ok () w := ck_sound hck hk true w
        rw [hex]
        simp [Builtin.delete_, underlying_run hu, SV.den, SV.dens, hc1]
      · rename_i k
        split
        · rename_i b es c hkk
          have hmo := he.hok k b _ hkk
          have hb := own_mapc hw hkk
          have hc1 : (Instr.checkKey ((es.map (entV e.H.ids)).toArray.isEmpty) 10000 kt (key.den e.H.ids)).run P w = .ok () w := ck_sound hck hk _ w
          have hgo : (getObj (e.H.ids k)).run P w = .ok (.map (es.map (entV e.H.ids)).toArray c) w := by simp [getObj, Sem.run, hb]
          split
          · rename_i i v hf
            have hfk := findKey_run hck hk hf hmo w
            intro _
            obtain ⟨w', s1, s2, s3, s4, s5, s6⟩ := own_set hw hkk he.hok (delE i es) c (fun x hx => hmo x (delE_mem hx))
            refine ⟨opok_value (r := ⟨_, .tup []⟩) ?_ s2 s3 s4 (by simp [SV.ok, SV.oks]) s5 s6 rfl, length_updL _ _ _⟩
            rw [hex]
            have hdel : (es.map (entV e.H.ids)).toArray.eraseIdxIfInBounds i = ((delE i es).map (entV e.H.ids)).toArray := by
              rw [delE_map]; simp
            simp only [Builtin.delete_, SV.den, SV.dens, Sem.run_bind, List.getElem?_toArray, List.getElem?_cons_zero, List.getElem?_cons_succ, underlying_run hu, Result.andThen_ok, hgo, hc1, hfk, Option.map_some, hdel, s1, Sem.run_pure]
          · rename_i hf
            have hfk := findKey_run hck hk hf hmo w
            intro _
            obtain ⟨w', s1, s2, s3, s4, s5, s6⟩ := own_set hw hkk he.hok es c hmo
            rw [updL_same hkk] at s2 s3 s4
            refine ⟨opok_value (r := ⟨_, .tup []⟩) ?_ s2 s3 s4 (by simp [SV.ok, SV.oks]) s5 s6 rfl, rfl⟩
            rw [hex]
            simp only [Builtin.delete_, SV.den, SV.dens, Sem.run_bind, List.getElem?_toArray, List.getElem?_cons_zero, List.getElem?_cons_succ, underlying_run hu, Result.andThen_ok, hgo, hc1, hfk, Option.map_none, s1, Sem.run_pure]
          · trivial
        · trivial
      · trivial
    · trivial
  · trivial

def clearMapP (H : Hp) (m : SV) : PR :=
  match m with
  | .nilmap => .det ⟨H, .tup []⟩ True
  | .mapp k => match nthO H k with
    | some (b, some (.mapc _ c)) => .det ⟨updL H k (b, some (.mapc [] c)), .tup []⟩ True
    | _ => .no
  | _ => .no
theorem clearMap_sound {P : Program} {e : Env} (he : e.Ok) {w : World} {F : List (Nat × Obj)} (hw : OwnL w (e.H.den ++ F)) {o : Oper} {t : TypeId} {ts : List TypeId} {d : TypeDesc} (hu : P.underlying t = some d) {m : SV}
    (hex : execOp e.a.eval o = (do pure (.value (← Builtin.clear_ (t :: ts).toArray o.type #[m.den e.H.ids])))) : PrOk P e.H F w e.a o (clearMapP e.H m) := by
  unfold clearMapP
  split
  · intro _
    refine ⟨opok_value (r := ⟨_, .tup []⟩) (w' := w) ?_ hw he.hok (Ext.refl _) (by simp [SV.ok, SV.oks]) rfl rfl rfl, rfl⟩
    rw [hex]
    simp [Builtin.clear_, underlying_run hu, SV.den, SV.dens]
  · rename_i k
    split
    · rename_i b es c hkk
      have hb := own_mapc hw hkk
      have hgo : (getObj (e.H.ids k)).run P w = .ok (.map (es.map (entV e.H.ids)).toArray c) w := by simp [getObj, Sem.run, hb]
      intro _
      obtain ⟨w', s1, s2, s3, s4, s5, s6⟩ := own_set hw hkk he.hok [] c (by simp)
      refine ⟨opok_value (r := ⟨_, .tup []⟩) ?_ s2 s3 s4 (by simp [SV.ok, SV.oks]) s5 s6 rfl, length_updL _ _ _⟩
      rw [hex]
      have s1' := s1 P
      simp only [List.map_nil] at s1'
      simp only [Builtin.clear_, SV.den, SV.dens, Sem.run_bind, List.getElem?_toArray, List.getElem?_cons_zero, underlying_run hu, Result.andThen_ok, hgo, s1', Sem.run_pure]
    · trivial
  · trivial
end Go.Sx
