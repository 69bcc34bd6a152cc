import Derived.Test.YtaalpiacinifkaaGreatDoorF5
import Derived.Test.YtaalpiacinifkaaGreatDoorF6
/- Part of the proof that ForwardNone of law 21 returns true whatever it is called with. No condition. -/
set_option linter.all false
/- The executor 'Fx': a range over a map comes to any of its entries; where a run ends. -/
namespace Go.Fx
open Go Go.Sx

/-- 'next' comes to one of the entries that are left. -/
theorem next_any {P : Program} {e : Env} (he : e.Ok) {w : World} {F : List (Nat × Obj)} (hw : OwnL w (e.H.den ++ F)) {o : Oper} {ty : TypeId} {k b : Nat} {m since : Nat} {seen : List Nat} {last : Nat} {bm : Nat} {es : List (SV × SV × Nat)} {c : Nat}
    (hk : nthO e.H k = some (b, some (.iterc (some m) since seen last))) (hm : nthO e.H m = some (bm, some (.mapc es c))) (hst : stepB seen es last = true) (hne : leftE seen es ≠ []) (hold : ∀ x ∈ leftE seen es, x.2.2 < since)
    (hex : execOp e.a.eval o = (do pure (.value (← Instr.next (.pointer (some ⟨b, 0, none⟩)) false ty)))) :
    OpOk P e.H F w e.a o (fun r => ∃ x ∈ leftE seen es, r = ⟨updL e.H k (b, some (.iterc (some m) since (seen ++ [x.2.2]) c)), .tup [.blit true, x.1, x.2.1]⟩) := by
  have hit := own_iter hw hk
  have hmo := own_mapc hw hm
  have hun := next_unsup (ids := e.H.ids) hst
  have hlf := left_filter (ids := e.H.ids) (seen := seen) (es := es)
  -- the candidates are the entries that are left
  have hold1 : (((leftE seen es).map (entV e.H.ids)).toArray.filter (fun x => decide (x.born < since))) = ((leftE seen es).map (entV e.H.ids)).toArray := by
    apply Array.ext'
    have : (((leftE seen es).map (entV e.H.ids)).toArray.filter (fun x => decide (x.born < since))).toList = ((leftE seen es).map (entV e.H.ids)).filter (fun x => decide (x.born < since)) := by simp
    rw [this, List.filter_eq_self.2]
    intro x hx
    obtain ⟨y, hy, rfl⟩ := List.mem_map.1 hx
    exact decide_eq_true (hold y hy)
  have hnew1 : (((leftE seen es).map (entV e.H.ids)).toArray.filter (fun x => decide (x.born ≥ since))) = #[] := by
    apply Array.ext'
    have : (((leftE seen es).map (entV e.H.ids)).toArray.filter (fun x => decide (x.born ≥ since))).toList = ((leftE seen es).map (entV e.H.ids)).filter (fun x => decide (x.born ≥ since)) := by simp
    rw [this, List.filter_eq_nil_iff.2]
    intro x hx
    obtain ⟨y, hy, rfl⟩ := List.mem_map.1 hx
    have := hold y hy
    simp [entV]; omega
  have hemp : (((leftE seen es).map (entV e.H.ids)).toArray).isEmpty = false := by
    cases hl : leftE seen es with
    | nil => exact absurd hl hne
    | cons a r => simp
  let n := (((leftE seen es).map (entV e.H.ids)).toArray.map some).size
  have hn : 0 < n := by
    simp only [n, Array.size_map, List.size_toArray, List.length_map]
    exact List.length_pos_iff.2 hne
  -- what is drawn
  obtain ⟨j, w1, hj, hch, hh1, hh2, hh3⟩ : ∃ (j : Nat) (w1 : World), j < n ∧ (choose (.mapNext n)).run P w = .ok j w1 ∧ w1.heap = w.heap ∧ w1.os = w.os ∧ w1.output = w.output := by
    by_cases hf : n ≤ 1
    · refine ⟨0, w, hn, ?_, rfl, rfl, rfl⟩
      simp [choose, Sem.run, Question.forced, hf]
    · refine ⟨w.tape w.drawn (.mapNext n) % n, { w with drawn := w.drawn + 1 }, Nat.mod_lt _ hn, ?_, rfl, rfl, rfl⟩
      simp [choose, Sem.run, Question.forced, hf, Question.cut]
  have hjl : j < (leftE seen es).length := by simpa [n] using hj
  let x := (leftE seen es)[j]
  have hx : x ∈ leftE seen es := List.getElem_mem hjl
  have hmem : x ∈ es := (List.mem_filter.1 hx).1
  have hes := he.hok m bm _ hm x hmem
  obtain ⟨A, B, hAB, hAw⟩ := own_split hw hk
  have hiok : ∀ (s : List Nat) (l : Nat), SO.ok e.H.length e.H.ids (.iterc (some m) since s l) := by
    intro s l k' hk'
    simp only [Option.some.injEq] at hk'; subst hk'; exact nthO_lt hm
  let w' : World := { w1 with heap := w1.heap.setIfInBounds b (.mapIter (some (e.H.ids m)) since (seen.toArray.push x.2.2) c) }
  have h0 : (SO.iterc (some m) since seen last).den e.H.ids b = [(b, .mapIter (some (e.H.ids m)) since seen.toArray last)] := by simp [SO.den]
  have h1 : (SO.iterc (some m) since (seen ++ [x.2.2]) c).den e.H.ids b = [(b, .mapIter (some (e.H.ids m)) since (seen.toArray.push x.2.2) c)] := by simp [SO.den]
  have hext : Ext e.H (updL e.H k (b, some (.iterc (some m) since (seen ++ [x.2.2]) c))) := ext_same (ids_updL hk) (length_updL _ _ _)
  refine opok_value (w := w) (r := ⟨updL e.H k (b, some (.iterc (some m) since (seen ++ [x.2.2]) c)), .tup [.blit true, x.1, x.2.1]⟩) (w' := w') ?_ ?_ (ok_updL he.hok hk (hiok _ _)) hext (by simp only [SV.ok, SV.oks, ids_updL hk, length_updL]; exact ⟨trivial, hes.1, hes.2, trivial⟩) hh2 hh3 ⟨x, hx, rfl⟩
  · rw [hex]
    simp only [SV.den, SV.dens, ids_updL hk]
    have hg1 : (getObj b).run P w = .ok (.mapIter (some (e.H.ids m)) since seen.toArray last) w := by simp [getObj, Sem.run, hit]
    have hg2 : (getObj (e.H.ids m)).run P w = .ok (.map (es.map (entV e.H.ids)).toArray c) w := by simp [getObj, Sem.run, hmo]
    have hget : (((leftE seen es).map (entV e.H.ids)).toArray.map some)[j]? = some (some (entV e.H.ids x)) := by
      simp [x, List.getElem?_eq_getElem hjl]
    have hset : (setObj b (.mapIter (some (e.H.ids m)) since (seen.toArray.push x.2.2) c)).run P w1 = .ok () w' := by
      simp [setObj, Sem.run, hh1, hit, w']
    have hcand : (if ((leftE seen es).map (entV e.H.ids)).toArray.isEmpty = true then #[none] else #[]) ++ ((((leftE seen es).map (entV e.H.ids)).toArray ++ #[]).map some) = ((leftE seen es).map (entV e.H.ids)).toArray.map some := by
      rw [hemp]; simp
    simp only [Instr.next, Sem.run_bind, hg1, Result.andThen_ok, hg2, hun, hlf, hold1, hnew1, Bool.false_eq_true, if_false, hcand]
    have hch' : (choose (.mapNext (((leftE seen es).map (entV e.H.ids)).toArray.map some).size)).run P w = .ok j w1 := hch
    rw [hch']
    simp only [Result.andThen_ok, hget, Sem.run_bind, entV, hset, Sem.run_pure]
  · rw [hAB, h1]
    rw [h0] at hAw
    have hAw1 : OwnL w1 (A ++ ([(b, .mapIter (some (e.H.ids m)) since seen.toArray last)] ++ (B ++ F))) := hAw.heap hh1
    have := OwnL.upd (A := A) (B := B ++ F) (by simpa using hAw1) (w' := w') rfl
    simpa using this
noncomputable section
/-- The states to which 'next' may come. -/
def fbranch (L : FCfg) (s : FSt) : Option (List FSt) :=
  match s with
  | ⟨h, ⟨fn, nt, fr, todo⟩, stk⟩ => match todo with
    | .reg ops i (o :: rest) dec :: k => match o.guard with
      | some _ => none
      | none => match o.op with
        | .next x false => match fopv L h fr x with
          | some (.ptr kk 0) => match hget h kk with
            | some (b, some (.iterc (some m) since seen last)) => match hget h m with
              | some (_, some (.mapc es c)) => match fstepB seen es last with
                | true => match fleft seen es with
                  | [] => none
                  | y :: ys => match lall (fun e : FV × FV × Nat => Nat.blt e.2.2 since) (y :: ys) with
                    | true => some (lmap (fun e : FV × FV × Nat => ⟨hset h kk (b, some (.iterc (some m) since (lapp seen [e.2.2]) c)), ⟨fn, nt, fputD fr nt o.dst (.tup [.bool true true, e.1, e.2.1]), .reg ops (Nat.succ i) rest (decPut dec nt o.dst) :: k⟩, stk⟩) (y :: ys))
                    | false => none
                | false => none
              | _ => none
            | _ => none
          | _ => none
        | _ => none
    | _ => none
end
theorem fbranch_good {L : FCfg} {fnb : Nat} {Q : List (Nat × Obj) → Value → Prop} {s : FSt} {l : List FSt} (hb : fbranch L s = some l) (hall : ∀ s' ∈ l, FGood L fnb Q s') : FGood L fnb Q s := by
  obtain ⟨h, ⟨fn, nt, fr, todo⟩, stk⟩ := s
  unfold fbranch at hb
  simp only at hb
  split at hb
  · rename_i ops i o rest dec k
    split at hb
    · simp at hb
    rename_i hgd
    split at hb
    · rename_i x hop
      split at hb
      · rename_i kk hx
        split at hb
        · rename_i b m since seen last hk
          split at hb
          · rename_i bm es c hm
            split at hb
            · rename_i hst
              split at hb
              · simp at hb
              · rename_i y ys hl
                split at hb
                · rename_i hlt
                  simp only [Option.some.injEq] at hb
                  subst hb
                  intro hw β os out cs F mm hmm
                  obtain ⟨hn, hwf⟩ := hw
                  obtain ⟨g1, g2⟩ := hget_sound (β := β) hk
                  obtain ⟨q1, q2⟩ := hget_sound (β := β) hm
                  rw [absE_mapc] at q1
                  obtain ⟨tmps, k', cs1, E2, w, rfl, h1, h2, ho, hr, hkk, hd, hon, hstk, hww, hok, hos, hout⟩ := reg_state hmm
                  have hon' : FrOn (absH β h).ids (absF β fr) (fun _ => True) tmps := hon
                  have he := mkEnv_ok (C := cfg L) (X := fun _ => True) hok h2 hon
                  have hgu : guardQ ops.toList (absF β fr) dec o = some true := by unfold guardQ; rw [hgd]
                  have hwant := guardQ_sound hgu hon (fun _ _ => trivial) hd
                  have hxs := fopv_sound (β := β) hx
                  have hev := (opv_sound he (x := x) (v := .ptr kk 0) hxs (fun _ _ => trivial)).1
                  rw [fstepB_eq (β := β)] at hst
                  have hle := fleft_eq (β := β) seen es
                  rw [hl] at hle
                  rw [lall_eq, List.all_eq_true] at hlt
                  have hop2 := next_any (P := L.P) he (o := o) (ty := o.type) hww g1 q1 hst (by rw [← hle]; simp [absM]) (by
                    intro z hz
                    rw [← hle] at hz
                    obtain ⟨e, h3, rfl⟩ := List.mem_map.1 hz
                    exact nblt (hlt e h3)) (by
                    have : execOp (mkEnv (cfg L) (absH β h) (absF β fr) tmps (fun _ => True)).a.eval o = (do pure (.value (← Instr.next ((mkEnv (cfg L) (absH β h) (absF β fr) tmps (fun _ => True)).a.eval x) false o.type))) := by
                      obtain ⟨dst, op, type, pos, after, guard⟩ := o
                      simp only at hop
                      subst hop
                      rfl
                    rw [this, hev]
                    simp only [SV.den, mkEnv, ids_of g1])
                  obtain ⟨r, w', ⟨z, hz, rfl⟩, hs1, s2, s3, s4, s5, s6, s7⟩ := hop2 (bF fn) k' (cs1 ++ cs) ops i _ ho hwant
                  rw [← hle] at hz
                  obtain ⟨e, he1, rfl⟩ := List.mem_map.1 hz
                  have hms := reg_done (cs := cs) (o := o) (fn := fn) (H' := _) (v := _) h1 h2 hr hkk hd hon hstk s4 s2 s3 (s6.trans hos) (s7.trans hout) s5 rfl
                  refine Fin.of_steps hs1 (hall ⟨hset h kk (b, some (.iterc (some m) since (lapp seen [e.2.2]) c)), ⟨fn, nt, fputD fr nt o.dst (.tup [.bool true true, e.1, e.2.1]), .reg ops (Nat.succ i) rest (decPut dec nt o.dst) :: k⟩, stk⟩ ?_ ?_ β os out cs F _ ?_)
                  · rw [lmap_eq]; exact List.mem_map.2 ⟨e, he1, rfl⟩
                  · refine ⟨hn, fun β1 β2 hag => ?_⟩
                    have hab := hwf β1 β2 hag
                    obtain ⟨e1, e2, e3⟩ := abs_parts hab
                    have hm1 := (hget_sound (β := β1) hm).1
                    have hm2 := (hget_sound (β := β2) hm).1
                    rw [absE_mapc] at hm1 hm2
                    rw [e1, hm2] at hm1
                    simp only [Option.some.injEq, Prod.mk.injEq, SO.mapc.injEq, and_true] at hm1
                    have hmem : e ∈ es := by
                      have : e ∈ fleft seen es := by rw [hl]; exact he1
                      have h5 : (absV β1 e.1, absV β1 e.2.1, e.2.2) ∈ absM β1 (fleft seen es) := List.mem_map.2 ⟨e, this, rfl⟩
                      clear h5
                      have sub : ∀ (l : List (FV × FV × Nat)), ∀ z ∈ fleft seen l, z ∈ l := by
                        intro l
                        induction l with
                        | nil => intro z hz; simp [fleft, lrec] at hz
                        | cons a r ih =>
                          intro z hz
                          have ee : fleft seen (a :: r) = (match memN a.2.2 seen with | true => fleft seen r | false => a :: fleft seen r) := rfl
                          rw [ee] at hz
                          split at hz
                          · exact List.mem_cons_of_mem _ (ih z hz)
                          · rcases List.mem_cons.1 hz with rfl | hz
                            · simp
                            · exact List.mem_cons_of_mem _ (ih z hz)
                      exact sub es e this
                    have hval : absV β1 e.1 = absV β2 e.1 ∧ absV β1 e.2.1 = absV β2 e.2.1 := by
                      have h6 := hm1.2
                      unfold absM at h6
                      have := List.map_inj_left.1 h6 e hmem
                      simp only [Prod.mk.injEq, and_true] at this
                      exact ⟨this.1.symm, this.2.symm⟩
                    have hbk : absE β1 kk (b, some (FO.iterc (some m) since (lapp seen [e.2.2]) c)) = absE β2 kk (b, some (.iterc (some m) since (lapp seen [e.2.2]) c)) := by
                      simp only [absE, absO]
                      cases b with
                      | some g => rfl
                      | none => rw [hag kk g2]
                    simp only [abs, absS, hset_abs g2 hn, fputD_abs, e1, e2, e3, hbk]
                    simp only [absV, absL, hval.1, hval.2]
                  · have hms' := hms
                    simp only [abs, absS, hset_abs g2 hn, fputD_abs]
                    simp only [absE, absO, absV, absL, mkBool, lapp_eq]
                    exact hms'
                · simp at hb
            · simp at hb
          · simp at hb
        · simp at hb
      · simp at hb
    · simp at hb
  · simp at hb
end Go.Fx

/- The executor 'Fx': a run that parts where a map's entry is chosen; a function's contract by such a run. -/
namespace Go.Fx
open Go Go.Sx
noncomputable section
def scEq (r c : FV) : Bool :=
  match r with
  | .int _ k x => match c with | .int _ k' y => band (kEq k k') (ieq x y) | _ => false
  | .bool _ a => match c with | .bool _ b => beqB a b | _ => false
  | .str n l => match c with | .str n' l' => band (Nat.beq n n') (Nat.beq l l') | _ => false
  | _ => false
/-- The run is at its end, with this scalar; and the first global is as it was, if that is asked. -/
def fdone (L : FCfg) (fnb : Nat) (need : Bool) (c : FV) (s : FSt) : Bool :=
  match s with
  | ⟨h, ⟨fn, _, fr, todo⟩, stk⟩ => match stk with
    | _ :: _ => false
    | [] => match band (Nat.beq fn fnb) (atEnd todo) with
      | false => false
      | true => match fretV L h fn fr with
        | some v => band (scEq v c) (match need with | false => true | true => fglob0 L h)
        | none => false
def ftree (L : FCfg) (fin : FSt → Bool) (n d : Nat) : FSt → Bool :=
  nrec (β := FSt → Bool) (fun _ => false) (fun _ ih s => match (crun L n).at s with
    | ⟨h, ⟨fn, nt, fr, todo⟩, stk⟩ => match fin ⟨h, ⟨fn, nt, fr, todo⟩, stk⟩ with
      | true => true
      | false => match fbranch L ⟨h, ⟨fn, nt, fr, todo⟩, stk⟩ with
        | some l => lall ih l
        | none => false) d
def startQ (P : Program) (h0 : FH) (f : Nat) : Option FSt := match enterQ P f with | some (c, n) => some ⟨h0, ⟨f, n, .e, [.code c]⟩, []⟩ | none => none
/-- Such a run from a function's entry, called with nothing. -/
def frunB (L : FCfg) (h0 : FH) (f n d : Nat) (need : Bool) (c : FV) : Bool :=
  match startQ L.P h0 f with
  | some s => ftree L (fdone L f need c) n d s
  | none => false
end
section
variable {L : FCfg}
theorem scEq_sound {r c : FV} (h : scEq r c = true) (β : Nat → Orc) (ids : Nat → Nat) : ∃ v, scalV c = some v ∧ (absV β r).den ids = v.den (fun _ => 0) := by
  unfold scEq at h
  split at h
  · rename_i l k x
    split at h
    · rename_i l' k' y
      obtain ⟨h1, h2⟩ := band_true h
      have h1 := kEq_eq h1
      have h2 := ieq_sound h2
      subst h1; subst h2
      refine ⟨_, rfl, ?_⟩
      cases l <;> cases l' <;> rfl
    · simp at h
  · rename_i l a
    split at h
    · rename_i l' b
      refine ⟨_, rfl, ?_⟩
      have h1 : a = b := by cases a <;> cases b <;> simp_all [beqB, bnot]
      subst h1
      cases l <;> cases l' <;> rfl
    · simp at h
  · rename_i n l
    split at h
    · rename_i n' l'
      obtain ⟨h1, h2⟩ := band_true h
      have h1 := Nat.eq_of_beq_eq_true h1
      have h2 := Nat.eq_of_beq_eq_true h2
      subst h1; subst h2
      exact ⟨_, rfl, rfl⟩
    · simp at h
  · simp at h
/-- What a contract of this kind says. -/
def QC (L : FCfg) (need : Bool) (c : FV) (M : List (Nat × Obj)) (x : Value) : Prop := (∃ v, scalV c = some v ∧ x = v.den (fun _ => 0)) ∧ ∃ A' B', M = A' ++ needL L need ++ B'
theorem fdone_good {f : Nat} {need : Bool} {c : FV} {s : FSt} (h : fdone L f need c s = true) : FGood L f (QC L need c) s := by
  obtain ⟨H, ⟨fn, nt, fr, todo⟩, stk⟩ := s
  unfold fdone at h
  simp only at h
  split at h
  · simp at h
  split at h
  · simp at h
  rename_i hb
  obtain ⟨b1, b2⟩ := band_true hb
  have b1 := Nat.eq_of_beq_eq_true b1
  subst b1
  split at h
  · rename_i v hv
    obtain ⟨b3, b4⟩ := band_true h
    intro hw β
    obtain ⟨vc, r1, r2⟩ := fretV_sound (β := β) hv
    refine good_done (C := cfg L) b2 r1 r2 ⟨scEq_sound b3 β _, ?_⟩
    cases need with
    | false => exact ⟨(absH β H).den, [], by simp [needL]⟩
    | true => exact fglob0_sound (β := β) b4
  · simp at h
theorem ftree_good {prim : Hp → Fr → Op → PR} (hmix : L.P.follows .mixedOrders = true) (hP : PrimSim L prim) (hL : ExtOk L) (hPO : PrimOk (LC L prim)) {f : Nat} {Q : List (Nat × Obj) → Value → Prop} {fin : FSt → Bool}
    (hfin : ∀ s, fin s = true → FGood L f Q s) (n : Nat) : ∀ (d : Nat) {s : FSt}, ftree L fin n d s = true → FGood L f Q s
  | 0, s, h => by simp [ftree, nrec] at h
  | d + 1, s, h => by
    have e : ftree L fin n (d + 1) s = (match (crun L n).at s with
      | ⟨h, ⟨fn, nt, fr, todo⟩, stk⟩ => match fin ⟨h, ⟨fn, nt, fr, todo⟩, stk⟩ with
        | true => true
        | false => match fbranch L ⟨h, ⟨fn, nt, fr, todo⟩, stk⟩ with
          | some l => lall (ftree L fin n d) l
          | none => false) := rfl
    rw [e] at h
    refine crun_good hmix hP hL hPO n ?_
    generalize (crun L n).at s = s' at h ⊢
    obtain ⟨H, ⟨fn, nt, fr, todo⟩, stk⟩ := s'
    simp only at h
    split at h
    · rename_i hf; exact hfin _ hf
    · split at h
      · rename_i l hl
        rw [lall_eq, List.all_eq_true] at h
        exact fbranch_good hl fun s' hs' => ftree_good hmix hP hL hPO hfin n d (h s' hs')
      · simp at h
/-- The memory at the start: the first global, or nothing. -/
noncomputable def startH (L : FCfg) (need : Bool) : FH := match need with | true => ⟨1, tset 20 .e 0 (some 0, some (.cells (.l (L.glob0.map (FV.int true .u32))) L.glob0t))⟩ | false => ⟨0, .e⟩
theorem start_abs (need : Bool) (β : Nat → Orc) : absH β (startH L need) = (match need with | true => [(0, some (.cells (L.glob0.map (mkInt true .u32)) L.glob0t))] | false => []) := by
  cases need with
  | false => rfl
  | true =>
    have hg : hget (startH L true) 0 = some (some 0, some (.cells (.l (L.glob0.map (FV.int true .u32))) L.glob0t)) := by
      unfold hget startH
      simp only [show Nat.blt 0 1 = true from rfl]
      rfl
    have h1 := (hget_sound (β := β) hg).1
    have hlen : (absH β (startH L true)).length = 1 := by simp [startH, absH]
    simp only
    match hx : absH β (startH L true), hlen with
    | [x], _ =>
      rw [hx] at h1
      simp only [nthO, Option.some.injEq] at h1
      rw [h1]
      simp only [absE, absO, absC_l, absL_eq, List.map_map]
      rfl
theorem start_den (need : Bool) (β : Nat → Orc) : (absH β (startH L need)).den = needL L need := by
  rw [start_abs]
  cases need with
  | false => rfl
  | true =>
    simp only [Hp.den, denL, Ent.den, SO.den, needL, dens_eq, List.map_map, List.append_nil]
    rfl
theorem start_ok (need : Bool) (β : Nat → Orc) : (absH β (startH L need)).ok := by
  rw [start_abs]
  cases need with
  | false => intro k b o h; simp [nthO] at h
  | true =>
    intro k b o h
    cases k with
    | zero =>
      simp only [nthO, Option.some.injEq, Prod.mk.injEq] at h
      rw [← h.2]
      simp only [SO.ok, oks_iff, List.all_eq_true]
      refine ⟨fun x hx => ?_, fun x hx => ?_⟩
      · obtain ⟨y, _, rfl⟩ := List.mem_map.1 hx
        exact trivial
      · obtain ⟨y, _, rfl⟩ := List.mem_map.1 hx
        rfl
    | succ k => simp [nthO] at h
/-- A function's contract, by a run that is worked out. -/
theorem fnOk_run (hmix : L.P.follows .mixedOrders = true) (hL : ExtOk L) (hF : Facts L) {f n d : Nat} {need : Bool} {c : FV} (h : frunB L (startH L need) f n d need c = true) :
    (∃ code n, enterQ L.P f = some (code, n)) ∧ FnOk L.P f #[] (needL L need) (QC L need c) := by
  unfold frunB startQ at h
  split at h
  · rename_i s hs
    split at hs
    · rename_i code nt hc
      simp only [Option.some.injEq] at hs
      subst hs
      refine ⟨⟨code, nt, hc⟩, ?_⟩
      have hg := ftree_good hmix (primSim L) hL (primOk hF) (fun s hs => fdone_good hs) n d h
      have hw : Wf ⟨startH L need, ⟨f, nt, .e, [.code code]⟩, []⟩ := by
        refine ⟨?_, fun β β' _ => ?_⟩
        · cases need <;> simp [startH]
        · simp only [abs, absS, start_abs, List.map_nil]
          rfl
      have h1 := hg hw (fun _ => ⟨0, 0, [], (0, 0)⟩)
      have h2 := fnOk_of_good (C := cfg L) (args := []) hc (start_ok (L := L) need (fun _ => ⟨0, 0, [], (0, 0)⟩)) trivial (Nat.zero_le _) (Q := QC L need c) h1
      rw [start_den] at h2
      exact h2
    · simp at hs
  · simp at h
end
end Go.Fx

/- The executor 'Fx': a contract of a function that is called with arguments. -/
namespace Go.Fx
open Go Go.Sx
noncomputable section
def startA (P : Program) (h0 : FH) (f : Nat) (args : List FV) : FSt := match enterQ P f with | some (c, n) => ⟨h0, ⟨f, n, fmkFr args, [.code c]⟩, []⟩ | none => ⟨h0, ⟨f, 0, .e, []⟩, []⟩
def setT (s : FSt) (T : Nat) (v : FV) : FSt := match s with | ⟨h, ⟨fn, nt, fr, todo⟩, stk⟩ => ⟨h, ⟨fn, nt, tset 13 fr T v, todo⟩, stk⟩
/-- The function is there, and takes so many arguments. -/
def entersB (P : Program) (f n : Nat) : Bool := match enterQ P f with | some (_, m) => Nat.ble n m | none => false
end
theorem start_len (L : FCfg) (need : Bool) (β : Nat → Orc) : (absH β (startH L need)).length = (startH L need).n := by simp [absH]
theorem fnOk_args {L : FCfg} {need : Bool} {f : Nat} {args : List FV} {sargs : List SV} {Q : List (Nat × Obj) → Value → Prop} (he : entersB L.P f args.length = true) (hargs : ∀ β, absL β args = sargs) (hok : ∀ N ids, SV.oks N ids sargs) {vs : Array Value}
    (hvs : ∀ ids, SV.dens ids sargs = vs.toList) (h : FGood L f Q (startA L.P (startH L need) f args)) : FnOk L.P f vs (needL L need) Q := by
  unfold entersB at he
  split at he
  · rename_i c nt hc
    have he := Nat.le_of_ble_eq_true he
    have hlen : sargs.length = args.length := by rw [← hargs (fun _ => ⟨0, 0, [], (0, 0)⟩), absL_eq]; simp
    unfold startA at h
    rw [hc] at h
    have hw : Wf ⟨startH L need, ⟨f, nt, fmkFr args, [.code c]⟩, []⟩ := by
      refine ⟨?_, fun β β' _ => ?_⟩
      · cases need <;> simp [startH]
      · simp only [abs, absS, start_abs, List.map_nil, fmkFr_abs, hargs]
    have h1 := h hw (fun _ => ⟨0, 0, [], (0, 0)⟩)
    simp only [abs, absS, fmkFr_abs, hargs, List.map_nil] at h1
    have h2 := fnOk_of_good (C := cfg L) (args := sargs) hc (start_ok (L := L) need (fun _ => ⟨0, 0, [], (0, 0)⟩)) (hok _ _) (by omega) (Q := Q) h1
    rw [start_den, hvs] at h2
    exact h2
  · simp at he
end Go.Fx
