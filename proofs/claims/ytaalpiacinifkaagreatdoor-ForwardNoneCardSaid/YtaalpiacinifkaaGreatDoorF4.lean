import Derived.Test.YtaalpiacinifkaaGreatDoorF3
import Derived.Test.YtaalpiacinifkaaGreatDoorS6
/- Part of the proof that ForwardNone of law 21 returns true whatever it is called with. No condition. -/
set_option linter.all false
/- The executor 'Fx': each step is one of the slower executor's. -/
namespace Go.Fx
open Go Go.Sx

def abs (β : Nat → Orc) (s : FSt) : St := ⟨absH β s.H, absS β s.top, s.stk.map (absS β)⟩
def StepSim (L : FCfg) (prim : Hp → Fr → Op → PR) (s : FSt) : FR → Prop
  | .go s' => s'.H.n = s.H.n ∧ ∃ hs, ∀ β, ∃ (hs' : List Hint) (vc : Prop) (eqs : List (SV × SV)), step2 (LC L prim) (abs β s) hs = .go (abs β s') hs' vc eqs ∧ vc ∧ eqsOk eqs
  | .new s' => s'.H.n = s.H.n + 1 ∧ s'.H.n ≤ 1000000 ∧ ∃ hs, ∀ β, ∃ f, step2 (LC L prim) (abs β s) hs = .new f ∧
      ∀ β', abs β' s = abs β s → ∃ (vc : Prop) (eqs : List (SV × SV)), f (β' s.H.n) = (abs β' s', vc, eqs) ∧ vc ∧ eqsOk eqs
  | .stop => True
theorem eqsOk_nil : eqsOk [] := by intro p hp; simp at hp
section
variable {L : FCfg} {prim : Hp → Fr → Op → PR}
theorem hmOf_nil (o : Oper) : hmOf o [] = (0, []) := by unfold hmOf; cases o.op <;> rfl
/-- A step of the first kind. -/
theorem sim1 {s s' : FSt} (hs : List Hint) (h : ∀ β, ∃ (hs' : List Hint) (vc : Prop) (eqs : List (SV × SV)), step1 (cfg L) (abs β s) hs = .go (abs β s') hs' vc eqs ∧ vc ∧ eqsOk eqs) (hn : s'.H.n = s.H.n) : StepSim L prim s (.go s') := by
  refine ⟨hn, hs, fun β => ?_⟩
  obtain ⟨hs', vc, eqs, h1, h2, h3⟩ := h β
  exact ⟨hs', vc, eqs, by simp only [step2, LC, h1], h2, h3⟩
theorem simT {s s' : FSt} (hs : List Hint) (h : ∀ β, ∃ (hs' : List Hint), step1 (cfg L) (abs β s) hs = .go (abs β s') hs' True []) (hn : s'.H.n = s.H.n) : StepSim L prim s (.go s') :=
  sim1 hs (fun β => by obtain ⟨hs', h1⟩ := h β; exact ⟨hs', True, [], h1, trivial, eqsOk_nil⟩) hn
theorem abs_parts {β β' : Nat → Orc} {h : FH} {fn nt : Nat} {fr : FFr} {todo : List SItem} {stk : List FF} (he : abs β' ⟨h, ⟨fn, nt, fr, todo⟩, stk⟩ = abs β ⟨h, ⟨fn, nt, fr, todo⟩, stk⟩) :
    absH β' h = absH β h ∧ absF β' fr = absF β fr ∧ stk.map (absS β') = stk.map (absS β) := by
  simp only [abs, absS, St.mk.injEq, SF.mk.injEq] at he
  exact ⟨he.1, he.2.1.2.2.1, he.2.2⟩
theorem fret_sim {h : FH} {fn nt : Nat} {fr : FFr} {todo : List SItem} {stk : List FF} (hstep : ∀ β hs, step1 (cfg L) (abs β ⟨h, ⟨fn, nt, fr, todo⟩, stk⟩) hs = stepRet (cfg L) (absH β h) fn (absF β fr) (stk.map (absS β)) hs) :
    StepSim L prim ⟨h, ⟨fn, nt, fr, todo⟩, stk⟩ (fret L h fn fr stk) := by
  unfold fret
  split
  · trivial
  · rename_i f stk'
    split
    · rename_i v hv
      split
      · rename_i f' hf
        refine sim1 [] (fun β => ?_) rfl
        rw [hstep]
        obtain ⟨vc, h1, h2⟩ := fretV_sound (β := β) hv
        obtain ⟨vc', eqs, h3, h4, h5⟩ := fresume_sound (β := β) hf
        refine ⟨[], vc ∧ vc', eqs, ?_, ⟨h2, h4⟩, h5⟩
        simp only [stepRet, List.map_cons]
        have : (cfg L).P = L.P := rfl
        rw [this, h1]
        simp only [h3]
        rfl
      · trivial
    · trivial
theorem fcall_sim {h : FH} {fn nt : Nat} {fr : FFr} {todo : List SItem} {stk : List FF} {g : Nat} {args : List FV} {hs : List Hint}
    (hstep : ∀ β, step1 (cfg L) (abs β ⟨h, ⟨fn, nt, fr, todo⟩, stk⟩) hs = stepCall (cfg L) (absH β h) (absS β ⟨fn, nt, fr, todo⟩) (stk.map (absS β)) hs g (absL β args)) :
    StepSim L prim ⟨h, ⟨fn, nt, fr, todo⟩, stk⟩ (fcall L h ⟨fn, nt, fr, todo⟩ stk g args) := by
  unfold fcall
  split
  · trivial
  · rename_i hm
    split
    · rename_i c n hc
      split
      · rename_i hle
        refine simT hs (fun β => ⟨hs, ?_⟩) rfl
        rw [hstep]
        rw [llen_eq] at hle
        have hm' : memB g (cfg L).stops = false := hm
        have hc' : enterQ (cfg L).P g = some (c, n) := hc
        simp only [stepCall, hm', hc', absL_len, hle, abs, absS, fmkFr_abs, List.map_cons]
      · trivial
    · trivial
theorem fstepCode_sim {h : FH} {fn nt : Nat} {fr : FFr} {c : Code} {k : List SItem} {stk : List FF} : StepSim L prim ⟨h, ⟨fn, nt, fr, .code c :: k⟩, stk⟩ (fstepCode L h fn nt fr c k stk) := by
  unfold fstepCode
  split
  · exact simT [] (fun β => ⟨[], rfl⟩) rfl
  · exact simT [] (fun β => ⟨[], rfl⟩) rfl
  · exact simT [] (fun β => ⟨[], rfl⟩) rfl
  · rename_i x a c
    split
    · rename_i l y hx
      have hx := fun β => fopv_sound (β := β) hx
      split
      · cases l
        · refine sim1 [.d true] (fun β => ⟨[], true = true, [], ?_, rfl, eqsOk_nil⟩) rfl
          have := hx β
          simp only [absV, mkBool] at this
          simp only [step1, abs, absS, stepCode, cfg, this]
        · refine simT [] (fun β => ⟨[], ?_⟩) rfl
          have := hx β
          simp only [absV, mkBool] at this
          simp only [step1, abs, absS, stepCode, cfg, this]
      · cases l
        · refine sim1 [.d false] (fun β => ⟨[], false = false, [], ?_, rfl, eqsOk_nil⟩) rfl
          have := hx β
          simp only [absV, mkBool] at this
          simp only [step1, abs, absS, stepCode, cfg, this]
        · refine simT [] (fun β => ⟨[], ?_⟩) rfl
          have := hx β
          simp only [absV, mkBool] at this
          simp only [step1, abs, absS, stepCode, cfg, this]
    · trivial
  · exact simT [] (fun β => ⟨[], rfl⟩) rfl
  · exact simT [] (fun β => ⟨[], rfl⟩) rfl
  · exact simT [] (fun β => ⟨[], rfl⟩) rfl
  · split
    · rename_i k' hk
      refine simT [] (fun β => ⟨[], ?_⟩) rfl
      simp only [step1, abs, absS, stepCode, fexit_sound hk]
    · trivial
  · exact fret_sim fun β hs => rfl
  · rename_i id ops draw
    split
    · exact simT [] (fun β => ⟨[], rfl⟩) rfl
    · split
      · rename_i r hr
        refine simT [] (fun β => ⟨[], ?_⟩) rfl
        have hr' : canon (cfg L).P ops.toList = some r := hr
        simp only [step1, abs, absS, stepCode, hr']
      · trivial
  · trivial
theorem falloc_new {h : FH} {fr : FFr} {op : Op} {fo : FO} {v : FV} (hv : falloc L h fr op = some (fo, v)) (β : Nat → Orc) :
    ∃ so mk, aeval L.P L.globs (absH β h) (absF β fr) op = some (so, mk) ∧ ∀ β' : Nat → Orc, absH β' h = absH β h → absF β' fr = absF β fr → so = absO β' h.n fo ∧ mk h.n (β' h.n).b = absV β' v := by
  obtain ⟨mk, h1, h2⟩ := falloc_sound (β := β) hv
  refine ⟨_, mk, h1, fun β' e1 e2 => ?_⟩
  obtain ⟨mk', h3, h4⟩ := falloc_sound (β := β') hv
  rw [e1, e2, h1] at h3
  simp only [Option.some.injEq, Prod.mk.injEq] at h3
  obtain ⟨h5, h6⟩ := h3
  exact ⟨h5, by rw [h6]; exact h4⟩
theorem fallocR_sim {h : FH} {fn nt : Nat} {fr : FFr} {d : Option Nat} {op : Op} {todo k' : List SItem} {stk : List FF} {hs : List Hint}
    (hstep : ∀ β so mk, aeval L.P L.globs (absH β h) (absF β fr) op = some (so, mk) → step1 (cfg L) (abs β ⟨h, ⟨fn, nt, fr, todo⟩, stk⟩) hs = .new fun a => ⟨absH β h ++ [(a, some so)], ⟨fn, nt, putD (absF β fr) nt d (mk (absH β h).length a), k'⟩, stk.map (absS β)⟩) :
    StepSim L prim ⟨h, ⟨fn, nt, fr, todo⟩, stk⟩ (fallocR L h fn nt fr d op k' stk) := by
  unfold fallocR
  split
  · rename_i fo v hv
    split
    · rename_i hn
      have hn := nblt hn
      refine ⟨rfl, hn, hs, fun β => ?_⟩
      obtain ⟨so, mk, h1, h2⟩ := falloc_new hv β
      refine ⟨fun o => (⟨absH β h ++ [(o.b, some so)], ⟨fn, nt, putD (absF β fr) nt d (mk (absH β h).length o.b), k'⟩, stk.map (absS β)⟩, True, []), by simp only [step2, LC, hstep β so mk h1], fun β' he => ?_⟩
      obtain ⟨e1, e2, e3⟩ := abs_parts he
      obtain ⟨h3, h4⟩ := h2 β' e1 e2
      refine ⟨True, [], ?_, trivial, eqsOk_nil⟩
      simp only [abs, absS, hpush_abs hn, fputD_abs, e1, e2, e3, absH_len, ← h3, ← h4]
    · trivial
  · trivial
theorem falloc_class {h : FH} {fr : FFr} {op : Op} (β : Nat → Orc) {dec : List (Nat × Bool)} (ho : (∃ t, op = .alloc t) ∨ (∃ t x, op = .box t x) ∨ (∃ t n ps, op = .buildSlice t n ps) ∨ ∃ t r, op = .makeMap t r) : qeval L.P L.globs (absH β h) (absF β fr) dec 0 op = none := by
  rcases ho with ⟨t, rfl⟩ | ⟨t, x, rfl⟩ | ⟨t, n, ps, rfl⟩ | ⟨t, r, rfl⟩ <;> rfl
theorem primR_sim (hP : PrimSim L prim) (hL : ExtOk L) {h : FH} {fn nt : Nat} {fr : FFr} {ops : Array Oper} {i : Nat} {o : Oper} {rest : List Oper} {dec : List (Nat × Bool)} {k : List SItem} {stk : List FF} (hn : h.n ≤ 1000000)
    (hg : fguard ops.toList fr dec o = .yes) : StepSim L prim ⟨h, ⟨fn, nt, fr, .reg ops i (o :: rest) dec :: k⟩, stk⟩ (fprimR L h fn nt fr ops i o rest dec k stk) := by
  have hg := fun β => fguard_yes (β := β) hg
  have stop : fprim L h fr o.op ≠ .no → ∀ β, step1 (cfg L) (abs β ⟨h, ⟨fn, nt, fr, .reg ops i (o :: rest) dec :: k⟩, stk⟩) [] = .stop := by
    intro hne β
    obtain ⟨h1, h2, h3, h4⟩ := fprim_loud (β := β) (dec := dec) hL hne
    have hgg := hg β
    simp only [step1, abs, absS, stepReg, hgg, hmOf_nil, cfg, h1, h2, h3]
    rcases h4 with h4 | ⟨g, args, h4, h5⟩
    · simp only [h4]
    · simp only [h4, stepCall, h5]
  have hp := fun β => hP β h fr o.op hn
  unfold fprimR
  cases hf : fprim L h fr o.op with
  | no => trivial
  | det h' v =>
    have hst := stop (by rw [hf]; simp)
    simp only [hf] at hp
    refine ⟨(hp (fun _ => ⟨0, 0, [], (0, 0)⟩)).1, [], fun β => ?_⟩
    obtain ⟨_, vc, h1, h2⟩ := hp β
    have hgg := hg β
    refine ⟨[], vc, [], ?_, h2, eqsOk_nil⟩
    simp only [step2, LC, hst β]
    simp only [primStep, abs, absS, primReg, hgg, h1, fputD_abs, Nat.succ_eq_add_one]
  | new h' v =>
    have hst := stop (by rw [hf]; simp)
    simp only [hf] at hp
    have h0 := hp (fun _ => ⟨0, 0, [], (0, 0)⟩)
    refine ⟨h0.1, h0.2.1, [], fun β => ?_⟩
    obtain ⟨_, _, f, eqs, h1, h2, h3⟩ := hp β
    have hgg := hg β
    refine ⟨fun x => (⟨(f x).H, ⟨fn, nt, putD (absF β fr) nt o.dst (f x).v, .reg ops (i + 1) rest (decPut dec nt o.dst) :: k⟩, stk.map (absS β)⟩, True, eqs), ?_, fun β' he => ?_⟩
    · simp only [step2, LC, hst β]
      simp only [primStep, abs, absS, primReg, hgg, h1]
    · obtain ⟨e1, e2, e3⟩ := abs_parts he
      have := h3 β' e1 e2
      refine ⟨True, eqs, ?_, trivial, h2⟩
      simp only [this, abs, absS, fputD_abs, e2, e3, Nat.succ_eq_add_one]
theorem fstepReg_sim (hP : PrimSim L prim) (hL : ExtOk L) {h : FH} {fn nt : Nat} {fr : FFr} {ops : Array Oper} {i : Nat} {o : Oper} {rest : List Oper} {dec : List (Nat × Bool)} {k : List SItem} {stk : List FF} (hn : h.n ≤ 1000000) :
    StepSim L prim ⟨h, ⟨fn, nt, fr, .reg ops i (o :: rest) dec :: k⟩, stk⟩ (fstepReg L h fn nt fr ops i o rest dec k stk) := by
  unfold fstepReg
  cases hg : fguard ops.toList fr dec o with
  | stop => trivial
  | dec t b =>
    have hg := fun β => fguard_dec (β := β) hg
    refine sim1 [.d b] (fun β => ?_) rfl
    obtain ⟨h1, vc, h2, h3⟩ := hg β
    exact ⟨[], vc, [], by simp only [step1, abs, absS, stepReg, h1, h2], h3, eqsOk_nil⟩
  | no =>
    have hg := fun β => fguard_no (β := β) hg
    refine simT [] (fun β => ⟨[], ?_⟩) rfl
    have hgg := hg β
    simp only [step1, abs, absS, stepReg, hgg, fputD_abs, absV, Nat.succ_eq_add_one]
  | yes =>
    have hgf := hg
    have hg := fun β => fguard_yes (β := β) hg
    simp only
    cases hq : fquiet L h fr dec o.op with
    | some v =>
      refine sim1 [] (fun β => ?_) rfl
      obtain ⟨vc, h1, h2⟩ := fquiet_sound (β := β) hq
      have hgg := hg β
      exact ⟨[], vc, [], by simp only [step1, abs, absS, stepReg, hgg, hmOf_nil, cfg, h1, fputD_abs, Nat.succ_eq_add_one], h2, eqsOk_nil⟩
    | none =>
      simp only
      have alloc : ∀ op, o.op = op → (∀ β, qeval L.P L.globs (absH β h) (absF β fr) dec 0 op = none) → StepSim L prim ⟨h, ⟨fn, nt, fr, .reg ops i (o :: rest) dec :: k⟩, stk⟩ (fallocR L h fn nt fr o.dst o.op (.reg ops (Nat.succ i) rest (decPut dec nt o.dst) :: k) stk) := by
        intro op ho hqn
        refine fallocR_sim (hs := []) fun β so mk ha => ?_
        have hgg := hg β
        have hqq := hqn β
        rw [← ho] at hqq
        simp only [step1, abs, absS, stepReg, hgg, hmOf_nil, cfg, hqq, ha, Nat.succ_eq_add_one]
      split
      · rename_i t x y hop
        split
        · rename_i h' hs
          refine sim1 [] (fun β => ?_) (fstoreOp_sound (β := fun _ => ⟨0, 0, [], (0, 0)⟩) hn hs).1
          obtain ⟨e1, e2⟩ := fstoreOp_sound (β := β) hn hs
          have hgg := hg β
          rw [← hop] at e2
          have q1 : qeval L.P L.globs (absH β h) (absF β fr) dec 0 o.op = none := by rw [hop]; rfl
          have q2 : aeval L.P L.globs (absH β h) (absF β fr) o.op = none := by rw [hop]; rfl
          exact ⟨[], True, [], by simp only [step1, abs, absS, stepReg, hgg, hmOf_nil, cfg, q1, q2, e2, fputD_abs, absV, Nat.succ_eq_add_one], trivial, eqsOk_nil⟩
        · trivial
      · rename_i t hop; exact alloc _ hop fun β => rfl
      · rename_i t x hop; exact alloc _ hop fun β => rfl
      · rename_i t n ps hop; exact alloc _ hop fun β => rfl
      · rename_i t r hop; exact alloc _ hop fun β => rfl
      · rename_i c hop
        split
        · rename_i g args hc
          split
          · refine fcall_sim (hs := []) fun β => ?_
            obtain ⟨h1, x, h2⟩ := fcallee_sound (β := β) hc
            have hgg := hg β
            rw [← hop] at h1
            have q1 : qeval L.P L.globs (absH β h) (absF β fr) dec 0 o.op = none := by rw [hop]; simp only [qeval, qCall, h2]
            have q2 : aeval L.P L.globs (absH β h) (absF β fr) o.op = none := by rw [hop]; rfl
            have q3 : seval L.P L.globs (absH β h) (absF β fr) o.op = none := by rw [hop]; rfl
            simp only [step1, abs, absS, stepReg, hgg, hmOf_nil, cfg, q1, q2, q3, h1]
          · exact primR_sim hP hL hn hgf
        · exact primR_sim hP hL hn hgf
      · exact primR_sim hP hL hn hgf
end
end Go.Fx

/- The executor 'Fx': regions whose order is drawn; runs. -/
namespace Go.Fx
open Go Go.Sx

section
variable {L : FCfg} {prim : Hp → Fr → Op → PR}
theorem earlyL_cons (P : Program) (ops : List Oper) (all : List Nat) (j : Nat) (r : List Nat) : earlyL P ops all (j :: r) = (match nthO ops j with
    | some o => match earlyL P ops all r with
      | some l => match Nat.beq (clsOf P o) 1 && readyB o all && o.guard.isNone with
        | true => some (o :: l)
        | false => some l
      | none => none
    | none => none) := rfl
theorem fearly_cons {h : FH} {fr : FFr} {nt : Nat} (o : Oper) (l : List Oper) : fearly L h fr nt (o :: l) = ((match falloc L h fr o.op with
    | some _ => band o.dst.isSome (putB nt o.dst)
    | none => false) && fearly L h fr nt l) := by
  simp only [fearly, lall_eq, List.all_cons]
  rfl
theorem fearly_sound {β : Nat → Orc} {h : FH} {fr : FFr} {ops : List Oper} {nt : Nat} {all : List Nat} : ∀ {r : List Nat} {l : List Oper}, earlyL L.P ops all r = some l → fearly L h fr nt l = true → earlyB L.P L.globs (absH β h) (absF β fr) ops nt all r = true
  | [], l, _, _ => rfl
  | j :: r, l, he, hf => by
    rw [earlyL_cons] at he
    simp only [earlyB]
    split at he
    · rename_i o ho
      simp only [ho]
      split at he
      · rename_i l' hl'
        split at he
        · rename_i hc
          simp only [Option.some.injEq] at he; subst he
          rw [fearly_cons, Bool.and_eq_true] at hf
          obtain ⟨h1, h2⟩ := hf
          have ih := fearly_sound (β := β) hl' h2
          simp only [hc, ih, Bool.and_true]
          split at h1
          · rename_i p hp
            obtain ⟨fo, v⟩ := p
            obtain ⟨mk, h3, _⟩ := falloc_sound (β := β) hp
            rw [h3]
            rw [band_eq] at h1
            simpa using h1
          · simp at h1
        · rename_i hc
          simp only [Option.some.injEq] at he; subst he
          have ih := fearly_sound (β := β) hl' hf
          simp only [hc, ih, Bool.and_true]
      · simp at he
    · simp at he
theorem fbackR_sound {β : Nat → Orc} {h : FH} {fn nt : Nat} {fr : FFr} {ops : Array Oper} {x : Nat} {r : List Nat} {dec : List (Nat × Bool)} {k : List SItem} {stk : List FF} {v : FV} {s : FSt}
    (hb : fbackR L h fn nt fr ops x r dec k stk v = some s) : ∃ (f' : FF) (vc : Prop) (eqs : List (SV × SV)), s = ⟨h, f', stk⟩ ∧ resume (cfg L) (absH β h) ⟨fn, nt, absF β fr, .dreg ops (x :: r) dec :: k⟩ (absV β v) = some (absS β f', vc, eqs) ∧ vc ∧ eqsOk eqs := by
  unfold fbackR at hb
  split at hb
  · rename_i f hf
    simp only [Option.some.injEq] at hb; subst hb
    obtain ⟨vc, eqs, h1, h2, h3⟩ := fresume_sound (β := β) hf
    exact ⟨f, vc, eqs, rfl, h1, h2, h3⟩
  · simp at hb
theorem cls_cases (P : Program) (o : Oper) : clsOf P o = 0 ∨ clsOf P o = 1 ∨ clsOf P o = 2 := by
  unfold clsOf
  split <;> (try split) <;> simp
theorem primD_sim (hP : PrimSim L prim) (hL : ExtOk L) {h : FH} {fn nt : Nat} {fr : FFr} {ops : Array Oper} {x : Nat} {o : Oper} {r : List Nat} {dec : List (Nat × Bool)} {k : List SItem} {stk : List FF} (hn : h.n ≤ 1000000)
    (ho : nthO ops.toList x = some o) (hput : putB nt o.dst = true) (hg : fguard ops.toList fr dec o = .yes) (hc : clsOf L.P o = 2) {l : List Oper} (hl : earlyL L.P ops.toList (x :: r) r = some l) (hf : fearly L h fr nt l = true)
    (hna : ∀ y, o.op ≠ .assign y) :
    StepSim L prim ⟨h, ⟨fn, nt, fr, .dreg ops (x :: r) dec :: k⟩, stk⟩ (fprimD L h fn nt fr ops x o r dec k stk) := by
  have hg := fun β => fguard_yes (β := β) hg
  have hear := fun β => fearly_sound (β := β) hl hf
  have hcb0 : Nat.beq (clsOf L.P o) 0 = false := by rw [hc]; rfl
  have hcb1 : Nat.beq (clsOf L.P o) 1 = false := by rw [hc]; rfl
  have hcb2 : Nat.beq (clsOf L.P o) 2 = true := by rw [hc]; rfl
  have stop : fprim L h fr o.op ≠ .no → ∀ β, step1 (cfg L) (abs β ⟨h, ⟨fn, nt, fr, .dreg ops (x :: r) dec :: k⟩, stk⟩) [] = .stop := by
    intro hne β
    obtain ⟨h1, h2, h3, h4⟩ := fprim_loud (β := β) (dec := dec) hL hne
    have hgg := hg β
    have hee := hear β
    simp only [step1, abs, absS, stepDreg, ho, hput, hgg, cfg, hcb0, hcb1, hee]
    rw [h3]
    simp only
    rcases h4 with h4 | ⟨g, args, h4, h5⟩
    · simp only [h4]
    · simp only [h4, stepCall, h5]
  have hp := fun β => hP β h fr o.op hn
  unfold fprimD
  cases hfp : fprim L h fr o.op with
  | no => trivial
  | det h' v =>
    have hst := stop (by rw [hfp]; simp)
    simp only [hfp] at hp
    simp only
    split
    · rename_i s hs
      have key : ∀ β, ∃ (f' : FF) (vc : Prop) (eqs : List (SV × SV)), s = ⟨h', f', stk⟩ ∧ resume (cfg L) (absH β h') ⟨fn, nt, absF β fr, .dreg ops (x :: r) dec :: k⟩ (absV β v) = some (absS β f', vc, eqs) ∧ vc ∧ eqsOk eqs := fun β => fbackR_sound hs
      obtain ⟨f0, _, _, hs0, _⟩ := key (fun _ => ⟨0, 0, [], (0, 0)⟩)
      refine ⟨by rw [hs0]; exact (hp (fun _ => ⟨0, 0, [], (0, 0)⟩)).1, [], fun β => ?_⟩
      obtain ⟨f', vc', eqs, q1, q2, q3, q4⟩ := key β
      obtain ⟨_, vc, h1, h2⟩ := hp β
      have hgg := hg β
      have hee := hear β
      refine ⟨[], vc ∧ vc', eqs, ?_, ⟨h2, q3⟩, q4⟩
      simp only [step2, LC, hst β]
      rw [q1]
      simp only [primStep, abs, absS, primDreg, ho, hgg, hput, cfg, hcb2, hee, Bool.and_self, h1, primBack]
      have q2' : resume ⟨L.P, L.stops, L.globs⟩ (absH β h') ⟨fn, nt, absF β fr, .dreg ops (x :: r) dec :: k⟩ (absV β v) = some (absS β f', vc', eqs) := q2
      simp only [q2', absS]
    · trivial
  | new h' v =>
    have hst := stop (by rw [hfp]; simp)
    simp only [hfp] at hp
    simp only
    split
    · rename_i s hs
      have key : ∀ β, ∃ (f' : FF) (vc : Prop) (eqs : List (SV × SV)), s = ⟨h', f', stk⟩ ∧ resume (cfg L) (absH β h') ⟨fn, nt, absF β fr, .dreg ops (x :: r) dec :: k⟩ (absV β v) = some (absS β f', vc, eqs) ∧ vc ∧ eqsOk eqs := fun β => fbackR_sound hs
      obtain ⟨f0, _, _, hs0, _⟩ := key (fun _ => ⟨0, 0, [], (0, 0)⟩)
      have h0 := hp (fun _ => ⟨0, 0, [], (0, 0)⟩)
      refine ⟨by rw [hs0]; exact h0.1, by rw [hs0]; exact h0.2.1, [], fun β => ?_⟩
      obtain ⟨_, _, f, eqs0, h1, h2, h3⟩ := hp β
      have hgg := hg β
      have hee := hear β
      refine ⟨fun y => match primBack (cfg L) fn nt (absF β fr) ops x r dec k (stk.map (absS β)) (f y) with
          | some (st', vc, eqs') => (st', vc, eqs0 ++ eqs')
          | none => (⟨(f y).H, ⟨fn, nt, absF β fr, []⟩, stk.map (absS β)⟩, False, []), ?_, fun β' he => ?_⟩
      · simp only [step2, LC, hst β]
        simp only [primStep, abs, absS, primDreg, ho, hgg, hput, cfg, hcb2, hee, Bool.and_self, h1]
        rfl
      · obtain ⟨e1, e2, e3⟩ := abs_parts he
        have h4 := h3 β' e1 e2
        obtain ⟨f', vc', eqs, q1, q2, q3, q4⟩ := key β'
        rw [e2] at q2
        refine ⟨vc', eqs0 ++ eqs, ?_, q3, ?_⟩
        · simp only
          rw [h4]
          simp only [primBack, q2]
          rw [q1]
          simp only [abs, absS, e3]
        · intro p hp
          rcases List.mem_append.1 hp with hp | hp
          · exact h2 p hp
          · exact q4 p hp
    · trivial
theorem floudD_sim (hP : PrimSim L prim) (hL : ExtOk L) {h : FH} {fn nt : Nat} {fr : FFr} {ops : Array Oper} {x : Nat} {o : Oper} {r : List Nat} {dec : List (Nat × Bool)} {k : List SItem} {stk : List FF} (hn : h.n ≤ 1000000)
    (ho : nthO ops.toList x = some o) (hput : putB nt o.dst = true) (hgf : fguard ops.toList fr dec o = .yes) (hc : clsOf L.P o = 2) {l : List Oper} (hl : earlyL L.P ops.toList (x :: r) r = some l) (hf : fearly L h fr nt l = true) :
    StepSim L prim ⟨h, ⟨fn, nt, fr, .dreg ops (x :: r) dec :: k⟩, stk⟩ (floudD L h fn nt fr ops x o r dec k stk) := by
  have hg := fun β => fguard_yes (β := β) hgf
  have hear := fun β => fearly_sound (β := β) hl hf
  have hcb0 : Nat.beq (clsOf L.P o) 0 = false := by rw [hc]; rfl
  have hcb1 : Nat.beq (clsOf L.P o) 1 = false := by rw [hc]; rfl
  unfold floudD
  split
  · rename_i y hop
    split
    · rename_i v hv
      refine simT [] (fun β => ⟨[], ?_⟩) rfl
      have hgg := hg β
      have hee := hear β
      simp only [step1, abs, absS, stepDreg, ho, hput, hgg, cfg, hcb0, hcb1, hee]
      rw [hop]
      simp only [fopv_sound (β := β) hv, fputD_abs]
    · trivial
  · rename_i t a b hop
    split
    · rename_i h' hs
      split
      · rename_i s hb
        have key : ∀ β, ∃ (f' : FF) (vc : Prop) (eqs : List (SV × SV)), s = ⟨h', f', stk⟩ ∧ resume (cfg L) (absH β h') ⟨fn, nt, absF β fr, .dreg ops (x :: r) dec :: k⟩ (absV β .undef) = some (absS β f', vc, eqs) ∧ vc ∧ eqsOk eqs := fun β => fbackR_sound hb
        obtain ⟨f0, _, _, hs0, _⟩ := key (fun _ => ⟨0, 0, [], (0, 0)⟩)
        refine sim1 [] (fun β => ?_) (by rw [hs0]; exact (fstoreOp_sound (β := fun _ => ⟨0, 0, [], (0, 0)⟩) hn hs).1)
        obtain ⟨f', vc', eqs, q1, q2, q3, q4⟩ := key β
        obtain ⟨e1, e2⟩ := fstoreOp_sound (β := β) hn hs
        have hgg := hg β
        have hee := hear β
        refine ⟨[], True ∧ vc', eqs, ?_, ⟨trivial, q3⟩, q4⟩
        simp only [step1, abs, absS, stepDreg, ho, hput, hgg, cfg, hcb0, hcb1, hee]
        rw [hop]
        have q2' : resume ⟨L.P, L.stops, L.globs⟩ (absH β h') ⟨fn, nt, absF β fr, .dreg ops (x :: r) dec :: k⟩ .undef = some (absS β f', vc', eqs) := q2
        simp only [e2, q2']
        rw [q1]
        rfl
      · trivial
    · trivial
  · rename_i c hop
    split
    · rename_i g args hcl
      split
      · refine fcall_sim (hs := []) fun β => ?_
        obtain ⟨h1, y, h2⟩ := fcallee_sound (β := β) hcl
        have hgg := hg β
        have hee := hear β
        simp only [step1, abs, absS, stepDreg, ho, hput, hgg, cfg, hcb0, hcb1, hee]
        rw [hop]
        have q3 : seval L.P L.globs (absH β h) (absF β fr) (.call c) = none := rfl
        simp only [q3, h1]
      · exact primD_sim hP hL hn ho hput hgf hc hl hf (by rw [hop]; simp)
    · exact primD_sim hP hL hn ho hput hgf hc hl hf (by rw [hop]; simp)
  · rename_i hna _ _
    exact primD_sim hP hL hn ho hput hgf hc hl hf hna
theorem fstepDreg_sim (hP : PrimSim L prim) (hL : ExtOk L) {h : FH} {fn nt : Nat} {fr : FFr} {ops : Array Oper} {x : Nat} {r : List Nat} {dec : List (Nat × Bool)} {k : List SItem} {stk : List FF} (hn : h.n ≤ 1000000) :
    StepSim L prim ⟨h, ⟨fn, nt, fr, .dreg ops (x :: r) dec :: k⟩, stk⟩ (fstepDreg L h fn nt fr ops x r dec k stk) := by
  unfold fstepDreg
  split
  · trivial
  rename_i o ho
  split
  · trivial
  rename_i hput
  cases hg : fguard ops.toList fr dec o with
  | stop => trivial
  | dec t b =>
    have hg := fun β => fguard_dec (β := β) hg
    refine sim1 [.d b] (fun β => ?_) rfl
    obtain ⟨h1, vc, h2, h3⟩ := hg β
    exact ⟨[], vc, [], by simp only [step1, abs, absS, stepDreg, ho, hput, h1, h2], h3, eqsOk_nil⟩
  | no =>
    have hg := fun β => fguard_no (β := β) hg
    simp only
    split
    · rename_i hc
      split
      · trivial
      · rename_i hd
        refine simT [] (fun β => ⟨[], ?_⟩) rfl
        have hgg := hg β
        have hcb0 : Nat.beq (clsOf L.P o) 0 = true := by rw [hc]; rfl
        simp only [step1, abs, absS, stepDreg, ho, hput, hgg, cfg, hcb0, hd, fputD_abs, absV]
    · rename_i hc
      have hcb0 : Nat.beq (clsOf L.P o) 0 = false := by
        cases hb : Nat.beq (clsOf L.P o) 0 with
        | false => rfl
        | true => exact absurd (nbeq hb) hc
      split
      · trivial
      · rename_i l hl
        split
        · trivial
        · rename_i hf
          refine simT [] (fun β => ⟨[], ?_⟩) rfl
          have hgg := hg β
          have hee := fearly_sound (β := β) hl hf
          simp only [step1, abs, absS, stepDreg, ho, hput, hgg, cfg, hcb0, hee, fputD_abs, absV]
  | yes =>
    have hgf := hg
    have hg := fun β => fguard_yes (β := β) hg
    simp only
    split
    · rename_i hc
      split
      · trivial
      · rename_i hd
        split
        · rename_i v hq
          refine sim1 [] (fun β => ?_) rfl
          obtain ⟨vc, h1, h2⟩ := fquiet_sound (β := β) hq
          have hgg := hg β
          have hcb0 : Nat.beq (clsOf L.P o) 0 = true := by rw [hc]; rfl
          exact ⟨[], vc, [], by simp only [step1, abs, absS, stepDreg, ho, hput, hgg, cfg, hcb0, hd, h1, fputD_abs], h2, eqsOk_nil⟩
        · trivial
    · rename_i hc
      have hcb0 : Nat.beq (clsOf L.P o) 0 = false := by
        cases hb : Nat.beq (clsOf L.P o) 0 with
        | false => rfl
        | true => exact absurd (nbeq hb) hc
      split
      · trivial
      · rename_i l hl
        split
        · trivial
        · rename_i hf
          split
          · rename_i hc1
            have hcb1 : Nat.beq (clsOf L.P o) 1 = true := by rw [hc1]; rfl
            refine fallocR_sim (hs := []) fun β so mk ha => ?_
            have hgg := hg β
            have hee := fearly_sound (β := β) hl hf
            simp only [step1, abs, absS, stepDreg, ho, hput, hgg, cfg, hcb0, hcb1, hee, ha]
          · rename_i hc1
            have hc2 : clsOf L.P o = 2 := by
              rcases cls_cases L.P o with h | h | h
              · exact absurd h hc
              · exact absurd h hc1
              · exact h
            exact floudD_sim hP hL hn ho hput hgf hc2 hl hf
theorem fstep_sim (hP : PrimSim L prim) (hL : ExtOk L) (s : FSt) (hn : s.H.n ≤ 1000000) : StepSim L prim s (fstep L s) := by
  obtain ⟨h, ⟨fn, nt, fr, todo⟩, stk⟩ := s
  unfold fstep
  simp only
  split
  · exact fret_sim fun β hs => rfl
  · split
    · exact fstepCode_sim
    · exact simT [] (fun β => ⟨[], rfl⟩) rfl
    · exact simT [] (fun β => ⟨[], rfl⟩) rfl
    · exact simT [.u] (fun β => ⟨[], rfl⟩) rfl
    · split
      · exact simT [] (fun β => ⟨[], rfl⟩) rfl
      · exact fstepReg_sim hP hL hn
    · split
      · exact simT [] (fun β => ⟨[], rfl⟩) rfl
      · exact fstepDreg_sim hP hL hn
/-! ### Runs -/
/-- What is meant hangs on what was drawn so far, and on nothing else. -/
def Wf (s : FSt) : Prop := s.H.n ≤ 1000000 ∧ ∀ β β' : Nat → Orc, (∀ j, j < s.H.n → β j = β' j) → abs β s = abs β' s
/-- From each machine that is as s says, whatever was drawn, the bottom function comes to hand back a value. -/
def FGood (L : FCfg) (fn : Nat) (Q : List (Nat × Obj) → Value → Prop) (s : FSt) : Prop := Wf s → ∀ β, Good (cfg L) fn Q (abs β s)
theorem fstep_good (hmix : L.P.follows .mixedOrders = true) (hP : PrimSim L prim) (hL : ExtOk L) (hPO : PrimOk (LC L prim)) {fn : Nat} {Q : List (Nat × Obj) → Value → Prop} {s : FSt} (h : match fstep L s with
    | .go s' => FGood L fn Q s'
    | .new s' => FGood L fn Q s'
    | .stop => FGood L fn Q s) : FGood L fn Q s := by
  intro hw β os out cs F m hm
  have hs := fstep_sim hP hL s hw.1
  cases hf : fstep L s with
  | stop => rw [hf] at h; exact h hw β os out cs F m hm
  | go s' =>
    rw [hf] at h hs
    obtain ⟨hn, hh, hstep⟩ := hs
    have hw' : Wf s' := by
      refine ⟨by rw [hn]; exact hw.1, fun β β' he => ?_⟩
      have hab := hw.2 β β' (by rw [hn] at he; exact he)
      obtain ⟨a1, a2, a3, a4, _⟩ := hstep β
      obtain ⟨b1, b2, b3, b4, _⟩ := hstep β'
      rw [hab, b4] at a4
      simp only [SR2.go.injEq] at a4
      exact a4.1.symm
    obtain ⟨hs', vc, eqs, h1, h2, h3⟩ := hstep β
    have h4 := step2_sound (L := LC L prim) hmix hPO (hs := hh) hm
    rw [h1] at h4
    obtain ⟨⟨m', g1, g2⟩, _⟩ := h4 h2 h3
    exact Fin.of_steps g1 (h hw' β os out cs F m' g2)
  | new s' =>
    rw [hf] at h hs
    obtain ⟨hn, hn2, hh, hstep⟩ := hs
    have hw' : Wf s' := by
      refine ⟨hn2, fun β β' he => ?_⟩
      have hab := hw.2 β β' (fun j hj => he j (by omega))
      obtain ⟨f, a1, a2⟩ := hstep β
      obtain ⟨f', b1, b2⟩ := hstep β'
      rw [hab, b1] at a1
      simp only [SR2.new.injEq] at a1
      obtain ⟨v1, e1, a3, _⟩ := a2 β rfl
      obtain ⟨v2, e2, b3, _⟩ := b2 β' rfl
      rw [← a1, he s.H.n (by omega), b3] at a3
      simp only [Prod.mk.injEq] at a3
      exact a3.1.symm
    obtain ⟨f, h1, h2⟩ := hstep β
    have h4 := step2_sound (L := LC L prim) hmix hPO (hs := hh) hm
    rw [h1] at h4
    obtain ⟨⟨y, g1⟩, g3⟩ := h4
    have hβ : abs (fun j => if j = s.H.n then y else β j) s = abs β s := hw.2 _ _ (fun j hj => if_neg (by omega))
    obtain ⟨vc, eqs, q1, q2, q3⟩ := h2 (fun j => if j = s.H.n then y else β j) hβ
    simp only [if_true] at q1
    rw [q1] at g1
    obtain ⟨m', r1, r2⟩ := g1 q2 q3
    exact Fin.of_steps r1 (h hw' _ os out cs F m' r2)
theorem frun_succ (n : Nat) (s : FSt) : frun L (n + 1) s = (match fstep L s with
    | .go s' => frun L n s'
    | .new s' => frun L n s'
    | .stop => s) := rfl
/-- A run is worked out by computing. -/
theorem frun_good (hmix : L.P.follows .mixedOrders = true) (hP : PrimSim L prim) (hL : ExtOk L) (hPO : PrimOk (LC L prim)) {fn : Nat} {Q : List (Nat × Obj) → Value → Prop} : ∀ (n : Nat) {s : FSt}, FGood L fn Q (frun L n s) → FGood L fn Q s
  | 0, s, h => h
  | n + 1, s, h => by
    rw [frun_succ] at h
    apply fstep_good hmix hP hL hPO
    cases hf : fstep L s with
    | stop => rw [hf] at h; exact h
    | go s' => rw [hf] at h; exact frun_good hmix hP hL hPO n h
    | new s' => rw [hf] at h; exact frun_good hmix hP hL hPO n h
end
end Go.Fx

/- The executor 'Fx': operations that are told from outside: what they are, for both executors. -/
namespace Go.Fx
open Go Go.Sx

/-! ### For the slower executor -/
def insS (x : Int) : List Int → List Int
  | [] => [x]
  | y :: r => if y < x then y :: insS x r else x :: y :: r
def sortS : List Int → List Int
  | [] => []
  | x :: r => insS x (sortS r)
def keysS : List (SV × SV × Nat) → Option (List Int)
  | [] => some []
  | e :: r => match isInt e.1 with
    | some (_, .i64, a) => match keysS r with | some l => some (a :: l) | none => none
    | _ => none
/-- Such keys as a map has: none twice; each entry with a stamp of its own. -/
def keysOkS (l : List Int) (bs : List Nat) (c : Nat) : Bool :=
  decide l.Nodup && (decide bs.Nodup && (bs.all (fun b => decide (b < c)) && l.all (fun a => decide (-9223372036854775808 ≤ a) && decide (a ≤ 9223372036854775807))))
def sortedP (L : FCfg) (H : Hp) (args : List SV) : PR :=
  match args with
  | [.fn (.func kf) [] [.ptr k o]] => match memB kf L.keysFn && Nat.beq o 0 with
    | true => match nthO H k with
      | some (_, some (.cells [.mapp m] _)) => match nthO H m with
        | some (_, some (.mapc es c)) => match keysS es with
          | some l => match keysOkS l (es.map (fun e => e.2.2)) c with
           | false => .no
           | true => match l with
            | [] => .det ⟨H, .sl 0 0 0 none 0 ⟨0, none⟩⟩ True
            | _ :: _ => match Nat.ble l.length 1000000 with
              | true => .new (fun o => ⟨H ++ [(o.b, some (.row ((sortS l).map (SV.lit .i64)) o.tl 0 o.x 1 (0, 0) 0 L.i64t))], .sl H.length 1 0 (some ⟨o.b, 0, none⟩) l.length ⟨l.length, some o.x⟩⟩) []
              | false => .no
          | none => .no
        | _ => .no
      | _ => .no
    | false => .no
  | _ => .no
noncomputable def sglob0 (L : FCfg) (H : Hp) : Prop := ∃ A B, H.den = A ++ [(0, Obj.cells (L.glob0.map (Value.int .u32)).toArray L.glob0t)] ++ B
def scalV (c : FV) : Option SV := match c with | .int l k x => some (mkInt l k x) | .bool l b => some (mkBool l b) | .str n len => some (.str (bytesN n len)) | _ => none
noncomputable def sconst (L : FCfg) (H : Hp) (n : Nat) (args : List SV) : PR :=
  match args with
  | [] => match L.consts[n]? with
    | some (need, c) => match scalV c with
      | some v => .det ⟨H, v⟩ (need = true → sglob0 L H)
      | none => .no
    | none => .no
  | _ => .no
noncomputable def sext (L : FCfg) (H : Hp) (n : Nat) (args : List SV) : PR :=
  match n with
  | 1 => noEscapeP H args
  | 2 => makeNoZeroP H L.u8t args
  | 4 => sortedP L H args
  | n => match Nat.ble 10 n with
    | true => sconst L H (n - 10) args
    | false => .no
def sappend (P : Program) (H : Hp) (t : TypeId) (xt : Option TypeId) (s x : SV) : PR :=
  match appendP P H t xt s x with
  | .no => openP P H t xt s x
  | r => r
def sclear (P : Program) (H : Hp) (t : TypeId) (m : SV) : PR :=
  match m with
  | .sl _ _ _ _ _ _ => clearSliceP P H t m
  | _ => match P.underlying t with
    | some _ => clearMapP H m
    | none => .no
def sbuiltin (P : Program) (H : Hp) (bi : Builtin) (ts : List TypeId) (l : List SV) : PR :=
  match bi with
  | .append => match ts with
    | t :: r => match l with
      | [s, x] => sappend P H t r[0]? s x
      | _ => .no
    | [] => .no
  | .copy => match ts with
    | t :: _ => match l with
      | [d, s] => copyP P H t d s
      | _ => .no
    | [] => .no
  | .clear => match ts with
    | t :: _ => match l with
      | [m] => sclear P H t m
      | _ => .no
    | [] => .no
  | .delete => match ts with
    | t :: _ => match l with
      | [m, k] => delP P H t m k
      | _ => .no
    | [] => .no
  | .unsafeSliceData => match l with | [x] => sliceDataP H x | _ => .no
  | .unsafeString => match ts with
    | [t, _] => match l with | [x, n] => unsafeStringP P H t x n | _ => .no
    | _ => .no
  | _ => .no
def sconv (P : Program) (H : Hp) (s d : TypeId) (x : SV) : PR :=
  match toStrP P H s d x with
  | .no => ptrConvP P H s d x
  | r => r
noncomputable def sprim (L : FCfg) (H : Hp) (fr : Fr) (op : Op) : PR :=
  match op with
  | .call c => match c.callee with
    | .builtin bi => match opvs L.globs H fr c.args.toList with
      | some l => sbuiltin L.P H bi c.argTypes.toList l
      | none => .no
    | _ => match ceval L.globs H fr (.call c) with
      | some (g, args) => sext L H (extOf g L.ext) args
      | none => .no
  | .mapUpdate t m k v => match opv L.globs H fr m with
    | some m => match opv L.globs H fr k with
      | some k => match opv L.globs H fr v with
        | some v => mapUpdP L.P H t m k v
        | none => .no
      | none => .no
    | none => .no
  | .makeSlice t l c => match opv L.globs H fr l with
    | some l => match opv L.globs H fr c with
      | some c => makeSliceP L.P H t l c
      | none => .no
    | none => .no
  | .convert s d x => match opv L.globs H fr x with
    | some x => sconv L.P H s d x
    | none => .no
  | .range t x => match opv L.globs H fr x with
    | some x => rangeP L.P H t x
    | none => .no
  | .next x false => match opv L.globs H fr x with
    | some x => nextP H x
    | none => .no
  | .entry x => match opv L.globs H fr x with
    | some x => entryP H x
    | none => .no
  | _ => .no
/-! ### Both -/
section
variable {β : Nat → Orc} {L : FCfg} {h : FH} {fr : FFr}
/-- The same thing is told by both. -/
def Told (β : Nat → Orc) (h : FH) (p : PR) : FPR → Prop
  | .det h' v => h'.n = h.n ∧ ∃ vc : Prop, p = .det ⟨absH β h', absV β v⟩ vc ∧ vc
  | .new h' v => h'.n = h.n + 1 ∧ h'.n ≤ 1000000 ∧ ∃ f eqs, p = .new f eqs ∧ eqsOk eqs ∧ f (β h.n) = ⟨absH β h', absV β v⟩
  | .no => True
theorem cellsA_sound {k o n : Nat} {c : FC} (hc : cellsA h k o n = some c) : cellsAt (absH β h) k o n = some (absC β c) := by
  unfold cellsA at hc
  split at hc
  · rename_i b fo hk
    obtain ⟨h1, _⟩ := hget_sound (β := β) hk
    split at hc
    · rename_i c0 h0
      unfold cellsAt
      simp only [h1, absE]
      rcases fcOf_sound (β := β) k h0 with ⟨ty, e⟩ | ⟨tl, m, mx, es, fz, fb, ty, e⟩ <;> simp only [e] <;> exact cSub_sound hc
    · simp at hc
  · simp at hc
theorem putA_sound {k o : Nat} {w : FC} {h' : FH} (hn : h.n ≤ 1000000) (hp : putA h k o w = some h') : h'.n = h.n ∧ putAt (absH β h) k o (absC β w) = some (absH β h') := by
  unfold putA at hp
  split at hp
  · rename_i b c ty hk
    obtain ⟨h1, h2⟩ := hget_sound (β := β) hk
    split at hp
    · rename_i c' hc
      simp only [Option.some.injEq] at hp; subst hp
      refine ⟨rfl, ?_⟩
      simp only [putAt, h1, absE, absO, cOver_sound (β := β) hc, hset_abs h2 hn]
    · simp at hp
  · rename_i b c d m op es zo fz fb ty hk
    obtain ⟨h1, h2⟩ := hget_sound (β := β) hk
    split at hp
    · simp at hp
    · rename_i hfb
      split at hp
      · rename_i c' hc
        simp only [Option.some.injEq] at hp; subst hp
        refine ⟨rfl, ?_⟩
        simp only [putAt, h1, absE, absO, hfb, cOver_sound (β := β) hc, hset_abs h2 hn]
      · rename_i hc
        split at hp
        · rename_i hb
          obtain ⟨b1, b2⟩ := band_true hb
          have b1' := nble b1
          split at hp
          · rename_i d
            simp only [Option.some.injEq] at hp; subst hp
            refine ⟨rfl, ?_⟩
            have hno := cOver_none (β := β) hc
            have hlt : ¬ o + cLen w ≤ cLen c := by
              intro hle
              unfold cOver at hc
              rw [nadd, nble_eq, decide_eq_true hle] at hc
              simp only at hc
              split at hc
              · simp at hc
              · split at hc <;> simp at hc
            have e1 : (Nat.ble o (cLen c) && (Nat.ble (cLen c) (o + cLen w) && Nat.ble (o + cLen w) (cLen c + m))) = true := by
              rw [b1]
              have : Nat.ble (cLen c) (o + cLen w) = true := Nat.ble_eq_true_of_le (by omega)
              rw [this]
              exact b2
            simp only [putAt, h1, absE, absO, hfb, hno, absC_len, e1, hset_abs h2 hn, cApp_eq, nadd, nsub, List.drop_drop]
          · simp at hp
        · simp at hp
  · simp at hp
theorem ffirst_sound {sz n : Nat} {x : FV} {c : FC} (hc : ffirst h sz n x = some c) : firstS (absH β h) sz n (absV β x) = some (absC β c) := by
  unfold ffirst at hc
  split at hc
  · simp only [absV, firstS]
    split at hc
    · simp only [Option.some.injEq] at hc; subst hc; rfl
    · split at hc
      · rename_i hb
        rw [band_eq] at hb
        simp only [Nat.succ_eq_add_one] at hb hc
        simp only [hb]
        exact cellsA_sound hc
      · simp at hc
  · rename_i s len
    split at hc
    · rename_i hle
      have hle := nble hle
      simp only [Option.some.injEq] at hc; subst hc
      simp only [absV, firstS, absC_b]
      rw [bytesN_cut s 0 n len (by omega), List.drop_zero]
    · simp at hc
  · simp at hc
theorem flenS_sound {x : FV} {n : Nat} (hn : flenS x = some n) : lenS (absV β x) = some n := by
  unfold flenS at hn
  split at hn
  · simp only [Option.some.injEq] at hn; subst hn; rfl
  · simp only [Option.some.injEq] at hn; subst hn; simp only [absV, lenS, bytesN_len]
  · simp at hn
theorem cApp_all (c w : FC) : absC β (cApp c (cLen c) w) = absC β c ++ absC β w := by
  rw [cApp_eq, ← absC_len (β := β), List.take_length]
theorem fappend_told (hn : h.n ≤ 1000000) {t : TypeId} {xt : Option TypeId} {s x : FV} : Told β h (sappend L.P (absH β h) t xt (absV β s) (absV β x)) (fappend L h t xt s x) := by
  unfold fappend
  split
  · rename_i e he
    obtain ⟨hu, hue⟩ := sliceElem_iff he
    split
    · trivial
    · rename_i hz
      split
      · rename_i k sz lo a len cn op
        split
        · trivial
        rename_i n hlen
        have hlen := flenS_sound (β := β) hlen
        split
        · trivial
        rename_i new hnew
        have hnew := ffirst_sound (β := β) hnew
        have hzz : ((L.P.underlying e).isSome && !zerosT L.P xt) = true := by rw [hue, hz]; rfl
        split
        · rename_i hle
          have hle : Nat.ble (len + n) cn = true := hle
          cases n with
          | zero =>
            refine ⟨rfl, True, ?_, trivial⟩
            simp only [sappend, appendP, hu, hzz, absV, hlen, hnew, hle]
          | succ n =>
            simp only
            split
            · trivial
            rename_i hsz
            split
            · rename_i h' hp
              obtain ⟨p1, p2⟩ := putA_sound (β := β) hn hp
              have hle2 : Nat.ble (len + (n + 1)) cn = true := hle
              have p3 : putAt (absH β h) k ((lo + len) * sz) (absC β new) = some (absH β h') := p2
              refine ⟨p1, True, ?_, trivial⟩
              simp only [sappend, appendP, hu, hzz, absV, hlen, hnew, hle2, hsz, p3]
              rfl
            · trivial
        · rename_i hle
          have hle : Nat.ble (len + n) cn = false := hle
          split
          · trivial
          rename_i old hold
          have hold := ffirst_sound (β := β) hold
          simp only [absV] at hold
          split
          · trivial
          rename_i hsm
          rw [band_eq] at hsm
          have hsm : (smallE L.P e (len + n) && zeroLen L.P e) = true := hsm
          split
          · simp only [opE] at hold
            unfold fgrow
            split
            · rename_i hlt
              have hlt := nblt hlt
              refine ⟨rfl, hlt, _, _, by simp only [sappend, appendP, hu, hzz, absV, hlen, hnew, hle, hold, hsm, opE, growP]; rfl, eqsOk_nil, ?_⟩
              simp only [hpush_abs hlt, absO, cApp_all, absH_len, List.drop_zero, absV, offA, opE, fzAbs, List.foldl_nil]
              rfl
            · trivial
          · split
            · trivial
            rename_i hlo
            rw [band_eq] at hlo
            split
            · rename_i b c d m es zo fz fb ty hk
              split
              · rename_i hc
                obtain ⟨c1, c2⟩ := band_true hc
                obtain ⟨c3, c1⟩ := band_true c1
                obtain ⟨c4, c1⟩ := band_true c1
                obtain ⟨c5, c6⟩ := band_true c1
                obtain ⟨c7, c8⟩ := band_true c2
                have c7 := nblt c7
                obtain ⟨g1, g2⟩ := hget_sound (β := β) hk
                have hnop : appendP L.P (absH β h) t xt (.sl k sz lo (offA β k a) len ⟨cn, opE β k true⟩) (absV β x) = .no := by
                  simp only [opE] at hold
                  simp only [appendP, hu, hzz, hlen, hnew, hle, opE]
                  rw [hold]
                  simp only [hsm]
                have c9 : (Nat.ble fb (len * sz) && (Nat.ble (cn * sz) ((absC β c).length + m) && (Nat.beq es sz && (Nat.beq ty e && Nat.beq (absC β new).length (n * sz))))) = true := by
                  simp only [Bool.and_eq_true]
                  refine ⟨c3, ?_, c5, c8, ?_⟩
                  · rw [absC_len]; exact c4
                  · rw [absC_len]; exact c6
                have hop : sappend L.P (absH β h) t xt (absV β (.sl k sz lo a len cn true)) (absV β x) = .new (fun o => ⟨updL (absH β h) k ((absE β k (b, none)).1, none) ++ [(o.b, some (.row (absC β old ++ absC β new) o.tl 0 o.x sz o.fz fb e))], .sl (absH β h).length sz 0 (some ⟨o.b, 0, none⟩) (len + n) ⟨len + n, some o.x⟩⟩) [(.int .i64 ((β k).x : Int), .int .i64 ((β k).x : Int))] := by
                  simp only [sappend, absV, hnop]
                  unfold openP
                  simp only [opE] at hold
                  simp only [hu, hzz, opE, hlen, hle, hnew]
                  rw [hold]
                  simp only [hsm, hlo, g1, absE, absO, c9]
                refine ⟨rfl, c7, _, _, hop, ?_, ?_⟩
                · intro p hp
                  simp only [List.mem_singleton] at hp
                  subst hp
                  rfl
                · have hn2 : (hset h k (b, none)).n = h.n := rfl
                  simp only [hpush_abs (h := hset h k (b, none)) (by rw [hn2]; exact c7), hn2, hset_abs g2 hn, absO, cApp_all, absH_len, List.drop_zero, absV, offA, opE, fzAbs, List.foldl_nil]
                  rfl
              · trivial
            · trivial
      · trivial
  · trivial
end
end Go.Fx

/- The executor 'Fx': operations that are told from outside: the same for both executors. -/
namespace Go.Fx
open Go Go.Sx
section
variable {β : Nat → Orc} {L : FCfg} {h : FH} {fr : FFr}
theorem minN_sx (a b : Nat) : Sx.minN a b = minN a b := rfl
theorem fcopy_told (hn : h.n ≤ 1000000) {t : TypeId} {d s : FV} : Told β h (copyP L.P (absH β h) t (absV β d) (absV β s)) (fcopy L h t d s) := by
  unfold fcopy
  split
  · rename_i e he
    obtain ⟨hu, hue⟩ := sliceElem_iff he
    split
    · rename_i k sz lo off dl cn op
      split
      · trivial
      rename_i sl hsl
      have hsl := flenS_sound (β := β) hsl
      cases hm : minN sl dl with
      | zero =>
        refine ⟨rfl, True, ?_, trivial⟩
        simp only [copyP, hu, hue, absV, hsl, minN_sx, hm]
        rfl
      | succ n =>
        simp only
        split
        · trivial
        rename_i hsz
        split
        · trivial
        rename_i cs hcs
        have hcs := ffirst_sound (β := β) hcs
        split
        · rename_i h' hp
          obtain ⟨p1, p2⟩ := putA_sound (β := β) hn hp
          have p3 : putAt (absH β h) k (lo * sz) (absC β cs) = some (absH β h') := p2
          refine ⟨p1, True, ?_, trivial⟩
          simp only [Nat.succ_eq_add_one] at hcs
          simp only [copyP, hu, hue, absV, hsl, minN_sx, hm, hsz, hcs, p3]
          rfl
        · trivial
    · trivial
  · trivial
theorem fsame1_sound {x y : FV} (hs : fsame1 x y = true) : same1 (absV β x) (absV β y) = true := by
  cases x <;> cases y <;> first
    | (exact absurd hs (by intro hs; change false = true at hs; simp at hs))
    | skip
  case int.int l k a l' k' b =>
    have hs : band (kEq k k') (ieq a b) = true := hs
    obtain ⟨h1, h2⟩ := band_true hs
    rw [ieq_eq] at h2
    cases l <;> cases l' <;> simp only [absV, mkInt, same1, h1, h2, Bool.and_self]
  case bool.bool l a l' b =>
    have := beqB_true (show beqB a b = true from hs)
    subst this
    cases l <;> cases l' <;> simp [absV, mkBool, same1]
  case str.str a la b lb =>
    simp only [absV, same1, eqN_eq]; exact hs
theorem fsameL_sound : ∀ {xs ys : List FV}, fsameL xs ys = true → sameL (absL β xs) (absL β ys) = true
  | [], [], _ => rfl
  | [], _ :: _, hs => by simp [fsameL, lrec] at hs
  | _ :: _, [], hs => by simp [fsameL, lrec] at hs
  | x :: xs, y :: ys, hs => by
    have e : fsameL (x :: xs) (y :: ys) = band (fsame1 x y) (fsameL xs ys) := rfl
    rw [e] at hs
    obtain ⟨h1, h2⟩ := band_true hs
    simp only [absL, sameL, fsame1_sound h1, fsameL_sound h2, Bool.and_self]
theorem fsame_sound {x y : FV} (hs : fsame x y = true) : sameB (absV β x) (absV β y) = true := by
  unfold fsame at hs
  split at hs
  · split at hs
    · simp only [absV, sameB]; exact fsameL_sound hs
    · simp at hs
  · rename_i hx
    have := fsame1_sound (β := β) hs
    unfold sameB
    split
    · rename_i xs he
      rw [he] at this
      simp [same1] at this
    · exact this
theorem absM_app (es fs : List (FV × FV × Nat)) : absM β (lapp es fs) = absM β es ++ absM β fs := by rw [lapp_eq]; simp [absM]
theorem modE_set (key val : SV) : ∀ (es : List (SV × SV × Nat)) (i : Nat) (k v : SV) (n : Nat), es[i]? = some (k, v, n) → modE key val i es = es.set i (key, val, n)
  | [], i, _, _, _, he => by simp at he
  | (k0, v0, n0) :: r, 0, k, v, n, he => by simp at he; obtain ⟨_, _, rfl⟩ := he; rfl
  | x :: r, i + 1, k, v, n, he => by simp only [modE, List.set_cons_succ]; rw [modE_set key val r i k v n (by simpa using he)]
theorem absE_mapc (k : Nat) (b : Option Nat) (es : List (FV × FV × Nat)) (c : Nat) : absE β k (b, some (.mapc es c)) = ((absE β k (b, none)).1, some (.mapc (absM β es) c)) := rfl
theorem fmapUpd_told (hn : h.n ≤ 1000000) {t : TypeId} {m key val : FV} : Told β h (mapUpdP L.P (absH β h) t (absV β m) (absV β key) (absV β val)) (fmapUpd L h t m key val) := by
  unfold fmapUpd
  split
  · rename_i kt e ht
    split
    · rename_i k
      split
      · rename_i b es c hk
        obtain ⟨h1, h2⟩ := hget_sound (β := β) hk
        rw [absE_mapc] at h1
        split
        · rename_i hck
          have hck := fckT_sound (β := β) hck
          split
          · rename_i i k0 v0 hf
            obtain ⟨f1, f2⟩ := ffind_sound (β := β) hf
            obtain ⟨n, f3⟩ := f2 _ rfl
            simp only at f3
            split
            · rename_i hs
              refine ⟨rfl, True, ?_, trivial⟩
              have hge : (absM β es)[i]? = some (absV β k0, absV β v0, n) := by simp [absM, f3]
              have hnth : nthO (absM β es) i = some (absV β k0, absV β v0, n) := by rw [nthO_eq]; exact hge
              have hb : fbornAt es i = n := by unfold fbornAt; rw [lget_getElem, f3]
              simp only [mapUpdP, mapKV_iff ht, absV, h1, hck, f1, Option.map_some, hnth, fsame_sound (β := β) hs, hset_abs h2 hn, absE_mapc, lset_eq, hb]
              rw [modE_set _ _ _ _ _ _ _ hge]
              simp [absM, List.map_set]
            · trivial
          · rename_i hf
            obtain ⟨f1, _⟩ := ffind_sound (β := β) hf
            refine ⟨rfl, True, ?_, trivial⟩
            simp only [mapUpdP, mapKV_iff ht, absV, h1, hck, f1, Option.map_none, hset_abs h2 hn, absE_mapc, absM_app]
            simp [absM]
          · trivial
        · trivial
      · trivial
    · trivial
  · trivial
theorem fdelE_eq : ∀ (es : List (FV × FV × Nat)) (i : Nat), absM β (fdelE es i) = delE i (absM β es)
  | [], i => by cases i <;> rfl
  | x :: r, 0 => rfl
  | x :: r, i + 1 => by
    have e : fdelE (x :: r) (i + 1) = x :: fdelE r i := rfl
    have := fdelE_eq r i
    simp only [absM] at this ⊢
    rw [e, List.map_cons, List.map_cons, this]; rfl
theorem fdelete_told (hn : h.n ≤ 1000000) {t : TypeId} {m key : FV} : Told β h (delP L.P (absH β h) t (absV β m) (absV β key)) (fdelete L h t m key) := by
  unfold fdelete
  split
  · rename_i kt e ht
    split
    · rename_i hck
      have hck := fckT_sound (β := β) hck
      split
      · refine ⟨rfl, True, ?_, trivial⟩
        simp only [delP, mapKV_iff ht, absV, hck]
        rfl
      · rename_i k
        split
        · rename_i b es c hk
          obtain ⟨h1, h2⟩ := hget_sound (β := β) hk
          rw [absE_mapc] at h1
          split
          · rename_i i k0 v0 hf
            obtain ⟨f1, f2⟩ := ffind_sound (β := β) hf
            refine ⟨rfl, True, ?_, trivial⟩
            simp only [delP, mapKV_iff ht, absV, h1, hck, f1, Option.map_some, hset_abs h2 hn, absE_mapc, fdelE_eq]
            rfl
          · rename_i hf
            obtain ⟨f1, f2⟩ := ffind_sound (β := β) hf
            refine ⟨rfl, True, ?_, trivial⟩
            simp only [delP, mapKV_iff ht, absV, h1, hck, f1, Option.map_none]
            rfl
          · trivial
        · trivial
      · trivial
    · trivial
  · trivial
theorem isZ8_sound {z : List FV} (hz : isZ8 z = true) : absL β z = byteCells (bytesN 0 1) := by
  unfold isZ8 at hz
  split at hz
  · rfl
  · simp at hz
theorem bytesN_zero : ∀ n, byteCells (bytesN 0 n) = (List.replicate n (SV.lit .u8 0))
  | 0 => rfl
  | n + 1 => by
    rw [bytesN_cons, byteCells, List.replicate_succ]
    have := bytesN_zero n
    simp [this]
theorem zeroC_eq (z : List FV) (n : Nat) : absC β (zeroC z n) = (List.replicate n (absL β z)).flatten := by
  unfold zeroC
  split
  · rename_i hz
    rw [isZ8_sound hz, absC_b, bytesN_zero, bytesN_zero]
    simp
  · rw [absC_l, fflat_eq]
theorem fclear_told (hn : h.n ≤ 1000000) {t : TypeId} {m : FV} : Told β h (sclear L.P (absH β h) t (absV β m)) (fclear L h t m) := by
  unfold fclear
  split
  · split
    · rename_i d hd
      exact ⟨rfl, True, by simp only [sclear, absV, hd, clearMapP]; rfl, trivial⟩
    · trivial
  · rename_i k
    split
    · rename_i d hd
      split
      · rename_i b es c hk
        obtain ⟨h1, h2⟩ := hget_sound (β := β) hk
        rw [absE_mapc] at h1
        exact ⟨rfl, True, by simp only [sclear, absV, hd, clearMapP, h1, hset_abs h2 hn, absE_mapc]; rfl, trivial⟩
      · trivial
    · trivial
  · rename_i k sz lo off n cn op
    split
    · rename_i e he
      obtain ⟨hu, hue⟩ := sliceElem_iff he
      split
      · exact ⟨rfl, True, by simp only [sclear, absV, clearSliceP, hu]; rfl, trivial⟩
      · rename_i n
        split
        · rename_i z hz
          have hz := fzeroT_sound (β := β) hz
          split
          · rename_i hc
            split
            · rename_i h' hp
              obtain ⟨p1, p2⟩ := putA_sound (β := β) hn hp
              rw [zeroC_eq] at p2
              obtain ⟨hcn, hc⟩ := band_true hc
              rw [band_eq, llen_eq] at hc
              have hc' : ((L.P.underlying e).isSome && (Nat.beq sz (L.P.cellsOf e) && Nat.beq (absL β z).length sz)) = true := by rw [hue, absL_len]; exact hc
              have p3 : putAt (absH β h) k (lo * sz) (List.replicate (n + 1) (absL β z)).flatten = some (absH β h') := p2
              have hcv : (⟨cn, opE β k op⟩ : Cap).v ≠ 0 := by
                have h1 := capV_ge ⟨cn, opE β k op⟩
                have h2 : cn ≠ 0 := by
                  intro h0
                  rw [h0] at hcn
                  simp [bnot] at hcn
                simp only at h1
                omega
              refine ⟨p1, _, ?_, hcv⟩
              simp only [sclear, absV, clearSliceP, hu, hz, hc', p3]
              rfl
            · trivial
          · trivial
        · trivial
    · trivial
  · trivial
theorem fmakeSlice_told {t : TypeId} {l c : FV} : Told β h (makeSliceP L.P (absH β h) t (absV β l) (absV β c)) (fmakeSlice L h t l c) := by
  unfold fmakeSlice
  split
  · rename_i e he
    obtain ⟨hu, hue⟩ := sliceElem_iff he
    split
    · trivial
    rename_i hz
    split
    · rename_i lb lk l'
      split
      · rename_i cb ck c'
        split
        · rename_i hb
          obtain ⟨b1, b2⟩ := band_true hb
          obtain ⟨b2, b3⟩ := band_true b2
          have b3 := nblt b3
          split
          · rename_i z hzz
            have hzz := fzeroT_sound (β := β) hzz
            have hel : ((L.P.underlying e).isSome && zeroLen L.P e) = true := by rw [hue, hz]; rfl
            have hbb : (Nat.ble l' c' && smallE L.P e c') = true := by rw [b1, b2]; rfl
            refine ⟨rfl, b3, _, _, by simp only [makeSliceP, hu, hel, isInt_abs, hbb, hzz]; rfl, eqsOk_nil, ?_⟩
            simp only [hpush_abs b3, absO, zeroC_eq, absH_len, absV, offA, opE]
          · trivial
        · trivial
      · trivial
    · trivial
  · trivial
theorem fbytesOf_sound {c : FC} {m len : Nat} (hb : fbytesOf c = some (m, len)) : bytesOf (absC β c) = some (bytesN m len) := by
  have big : ∀ (l : List UInt8), bytesOf (byteCells l) = some l := by
    intro l
    induction l with
    | nil => rfl
    | cons b r ih => simp [byteCells, bytesOf, isInt, ih]
  unfold fbytesOf at hb
  split at hb
  · simp only [Option.some.injEq, Prod.mk.injEq] at hb; obtain ⟨rfl, rfl⟩ := hb
    rw [absC_b, big]
  · rename_i l
    rw [absC_l]
    have : ∀ (l : List FV) (m len : Nat), lrec (some (0, 0)) (fun x _ ih => match x with
      | .int _ .u8 (.ofNat a) => match ih with
        | some (n, len) => some (Nat.add (Nat.mod a 256) (Nat.mul 256 n), Nat.succ len)
        | none => none
      | _ => none) l = some (m, len) → bytesOf (absL β l) = some (bytesN m len) := by
      intro l
      induction l with
      | nil => intro m len hb; simp [lrec] at hb; obtain ⟨rfl, rfl⟩ := hb; rfl
      | cons x r ih =>
        intro m len hb
        simp only [lrec] at hb
        split at hb
        · rename_i lb a
          split at hb
          · rename_i n len' hr
            simp only [Option.some.injEq, Prod.mk.injEq] at hb; obtain ⟨rfl, rfl⟩ := hb
            have := ih n len' hr
            simp only [absL, bytesOf, isInt_abs, this, Nat.succ_eq_add_one, bytesN_cons, nadd, nmul, nmod]
            have h1 : (a % 256 + 256 * n) % 256 = a % 256 := by omega
            have h2 : (a % 256 + 256 * n) / 256 = n := by omega
            rw [h1, h2]
            have h3 : UInt8.ofNat (Int.ofNat a).toNat = UInt8.ofNat (a % 256) := by
              apply UInt8.toNat_inj.1
              simp
            rw [h3]
          · simp at hb
        · simp at hb
    exact this l m len hb
end
end Go.Fx

/- The executor 'Fx': operations that are told from outside: the rest; all of them. -/
namespace Go.Fx
open Go Go.Sx
section
variable {β : Nat → Orc} {L : FCfg} {h : FH} {fr : FFr} {ids : Nat → Nat}
theorem fsliceData_told {x : FV} : Told β h (sliceDataP (absH β h) (absV β x)) (fsliceData h x) := by
  unfold fsliceData
  split
  · rename_i k sz lo off len n op
    split
    · exact ⟨rfl, True, rfl, trivial⟩
    · split
      · trivial
      · rename_i hn
        refine ⟨rfl, _, rfl, ?_⟩
        have h1 := capV_ge ⟨n, opE β k op⟩
        have h2 : n ≠ 0 := by intro h0; rw [h0] at hn; simp at hn
        simp only at h1
        omega
  · trivial
theorem maxN_eq (a b : Nat) : maxN a b = max a b := by
  unfold maxN
  split
  · rename_i h; have := nble h; omega
  · rename_i h
    have : ¬ a ≤ b := fun h' => by rw [Nat.ble_eq_true_of_le h'] at h; simp at h
    omega
theorem fusRow_sound {fo fo' : FO} {m : Nat} {c : FC} {ty : TypeId} (hu : fusRow fo m = some (c, ty, fo')) (k : Nat) : usRow (absO β k fo) m = some (absC β c, ty, absO β k fo') := by
  unfold fusRow at hu
  split at hu
  · simp only [Option.some.injEq, Prod.mk.injEq] at hu; obtain ⟨rfl, rfl, rfl⟩ := hu
    simp only [absO, usRow, fzAbs, List.foldl_cons, List.foldl_nil]
    try rfl
  · simp only [Option.some.injEq, Prod.mk.injEq] at hu; obtain ⟨rfl, rfl, rfl⟩ := hu
    simp only [absO, usRow, fzAbs, lapp_eq, List.foldl_append, List.foldl_cons, List.foldl_nil, maxN_eq]
  · simp at hu
theorem fstring_told (hn : h.n ≤ 1000000) {t : TypeId} {x n : FV} : Told β h (unsafeStringP L.P (absH β h) t (absV β x) (absV β n)) (fstring L h t x n) := by
  unfold fstring
  split
  · rename_i l m
    split
    · split
      · exact ⟨rfl, True, by simp only [unsafeStringP, isInt_abs]; rfl, trivial⟩
      · exact ⟨rfl, True, by simp only [unsafeStringP, isInt_abs]; rfl, trivial⟩
      · trivial
    · rename_i m
      split
      · rename_i k i sz j
        split
        · rename_i hb
          obtain ⟨b1, b2⟩ := band_true hb
          have b2 := nblt b2
          have b1 : Nat.beq (i * sz + j) 0 = true := b1
          split
          · rename_i el hu
            split
            · rename_i b fo hk
              obtain ⟨h1, h2⟩ := hget_sound (β := β) hk
              split
              · rename_i c ty fo' hus
                have hus := fusRow_sound (β := β) hus k
                split
                · rename_i hc
                  rw [band_eq] at hc
                  split
                  · rename_i c' hs
                    have hs := cSub_sound (β := β) hs
                    split
                    · rename_i s len hby
                      have hby := fbytesOf_sound (β := β) hby
                      refine ⟨rfl, m + 1 ≤ 9223372036854775807, ?_, by omega⟩
                      simp only [Nat.succ_eq_add_one] at hus hs
                      simp only [unsafeStringP, isInt_abs]
                      simp only [absV, b1, hu, h1, absE, hus, hc, hs, hby, hset_abs h2 hn]
                    · trivial
                  · trivial
                · trivial
              · trivial
            · trivial
          · trivial
        · trivial
      · trivial
  · trivial
theorem fptrConv_told {s d : TypeId} {x : FV} : Told β h (ptrConvP L.P (absH β h) s d (absV β x)) (fptrConv L h s d x) := by
  unfold fptrConv
  split
  · rename_i u hu
    split
    · rename_i k o
      split
      · rename_i ho
        split
        · rename_i b c ty hk
          obtain ⟨h1, h2⟩ := hget_sound (β := β) hk
          split
          · rename_i hc
            rw [band_eq, band_eq, bnot_eq] at hc
            refine ⟨rfl, True, ?_, trivial⟩
            simp only [ptrConvP, hu, absV, ho, h1, absE, absO, absC_len, hc]
          · trivial
        · trivial
      · trivial
    · trivial
  · trivial
theorem fconv_told {s d : TypeId} {x : FV} : Told β h (sconv L.P (absH β h) s d (absV β x)) (fconv L h s d x) := by
  unfold fconv
  split
  · rename_i hk
    obtain ⟨⟨e, h1, h2⟩, h3⟩ := convK_1 hk
    split
    · rename_i k sz lo a n cn op
      split
      · rename_i c hc
        have hc := ffirst_sound (β := β) hc
        simp only [absV] at hc
        split
        · rename_i m len hb
          have hb := fbytesOf_sound (β := β) hb
          refine ⟨rfl, True, ?_, trivial⟩
          simp only [sconv, toStrP, h1, h2, h3, absV, hc, hb]
        · trivial
      · trivial
    · trivial
  · rename_i hk
    have hno : toStrP L.P (absH β h) s d (absV β x) = .no := by
      unfold toStrP
      unfold convK at hk
      cases hs : L.P.underlying s with
      | none => rfl
      | some ds =>
        rw [hs] at hk
        cases ds <;> first | rfl | skip
        rename_i e
        simp only at hk ⊢
        cases he : L.P.underlying e with
        | none => rfl
        | some de =>
          rw [he] at hk
          cases de <;> first | rfl | skip
          rename_i ik
          cases ik <;> first | rfl | skip
          simp only at hk ⊢
          cases hd : L.P.underlying d with
          | none => rfl
          | some dd =>
            rw [hd] at hk
            cases dd <;> first | rfl | (simp at hk; done)
    have : sconv L.P (absH β h) s d (absV β x) = ptrConvP L.P (absH β h) s d (absV β x) := by simp only [sconv, hno]
    rw [this]
    exact fptrConv_told
  · trivial
theorem frange_told {t : TypeId} {x : FV} : Told β h (rangeP L.P (absH β h) t (absV β x)) (frange L h t x) := by
  unfold frange
  split
  · rename_i kv hkv
    obtain ⟨kt, e⟩ := kv
    have hkv := mapKV_iff hkv
    split
    · rename_i hn
      have hn := nblt hn
      split
      · rename_i k
        split
        · rename_i b es c hk
          obtain ⟨h1, h2⟩ := hget_sound (β := β) hk
          rw [absE_mapc] at h1
          refine ⟨rfl, hn, _, _, by simp only [rangeP, hkv, absV, h1]; rfl, eqsOk_nil, ?_⟩
          simp only [hpush_abs hn, absO, absH_len, absV]
        · trivial
      · refine ⟨rfl, hn, _, _, by simp only [rangeP, hkv, absV]; rfl, eqsOk_nil, ?_⟩
        simp only [hpush_abs hn, absO, absH_len, absV]
      · trivial
    · trivial
  · trivial
theorem memN_eq (n : Nat) : ∀ l : List Nat, memN n l = l.contains n
  | [] => rfl
  | m :: r => by
    have e : memN n (m :: r) = (match Nat.beq n m with | true => true | false => memN n r) := rfl
    rw [e, memN_eq n r, nbeq_eq, List.contains_cons]
    by_cases hh : n = m <;> simp [hh]
theorem fleft_eq (seen : List Nat) : ∀ es : List (FV × FV × Nat), absM β (fleft seen es) = leftE seen (absM β es)
  | [] => rfl
  | e :: r => by
    have e1 : fleft seen (e :: r) = (match memN e.2.2 seen with | true => fleft seen r | false => e :: fleft seen r) := rfl
    have ih := fleft_eq seen r
    rw [e1, memN_eq]
    unfold leftE absM at ih ⊢
    simp only [List.map_cons, List.filter_cons]
    cases hc : seen.contains e.2.2
    · simp [ih]
    · simp [ih]
theorem fstepB_eq (seen : List Nat) (es : List (FV × FV × Nat)) (last : Nat) : fstepB seen es last = stepB seen (absM β es) last := by
  unfold fstepB stepB
  cases seen with
  | nil => rfl
  | cons x r =>
    cases es with
    | nil => rfl
    | cons y es =>
      simp only [absM, List.map_cons, bnot_eq, lall_eq, List.all_cons, List.all_map]
      rfl
theorem fnext_told (hn : h.n ≤ 1000000) {x : FV} : Told β h (nextP (absH β h) (absV β x)) (fnext h x) := by
  unfold fnext
  split
  · rename_i k
    split
    · rename_i b mk since seen last hk
      obtain ⟨h1, h2⟩ := hget_sound (β := β) hk
      split
      · refine ⟨rfl, True, ?_, trivial⟩
        simp only [nextP, absV, Nat.beq_refl, h1, absE, absO]
        rfl
      · rename_i m
        split
        · rename_i bm es c hm
          obtain ⟨g1, g2⟩ := hget_sound (β := β) hm
          rw [absE_mapc] at g1
          split
          · trivial
          rename_i hst
          rw [fstepB_eq (β := β)] at hst
          have hle := fleft_eq (β := β) seen es
          split
          · rename_i hl
            rw [hl] at hle
            refine ⟨rfl, True, ?_, trivial⟩
            simp only [nextP, absV, Nat.beq_refl, h1, absE, absO, g1, hst, ← hle]
            rfl
          · rename_i key val n hl
            rw [hl] at hle
            split
            · rename_i hlt
              refine ⟨rfl, True, ?_, trivial⟩
              have hlt' : Nat.ble (n + 1) since = true := hlt
              have hle' : leftE seen (absM β es) = [(absV β key, absV β val, n)] := by rw [← hle]; rfl
              simp only [nextP, absV, h1, absE, absO, g1, hst, hle', hlt', hset_abs h2 hn, lapp_eq]
              rfl
            · trivial
          · trivial
        · trivial
    · trivial
  · trivial
theorem flastN_eq : ∀ l : List Nat, flastN l = lastN l
  | [] => rfl
  | [x] => rfl
  | x :: y :: r => by
    have e : flastN (x :: y :: r) = flastN (y :: r) := rfl
    rw [e, flastN_eq (y :: r)]; rfl
theorem ffindE_sound {n : Nat} {e : FV × FV × Nat} : ∀ {l : List (FV × FV × Nat)}, ffindE n l = some e → findE n (absM β l) = some (absV β e.1, absV β e.2.1, e.2.2)
  | [], h => by simp [ffindE, lrec] at h
  | x :: r, h => by
    have e1 : ffindE n (x :: r) = (match Nat.beq x.2.2 n with | true => some x | false => ffindE n r) := rfl
    rw [e1] at h
    simp only [absM, List.map_cons, findE]
    split at h
    · rename_i hb
      simp only [Option.some.injEq] at h; subst h
      simp only [hb]
    · rename_i hb
      simp only [hb]
      exact ffindE_sound h
theorem fentryR_told {x : FV} : Told β h (entryP (absH β h) (absV β x)) (fentryR h x) := by
  unfold fentryR
  split
  · rename_i k
    split
    · rename_i b m since seen last hk
      obtain ⟨h1, h2⟩ := hget_sound (β := β) hk
      split
      · rename_i n hn
        rw [flastN_eq] at hn
        split
        · rename_i bm es c hm
          obtain ⟨g1, g2⟩ := hget_sound (β := β) hm
          rw [absE_mapc] at g1
          split
          · trivial
          rename_i hc
          split
          · rename_i e he
            refine ⟨rfl, True, ?_, trivial⟩
            simp only [entryP, absV, absL, Nat.beq_refl, h1, absE, absO, hn, g1, hc, ffindE_sound (β := β) he]
          · trivial
        · trivial
      · trivial
    · trivial
  · trivial
theorem insI_eq (x : Int) : ∀ l : List Int, insI x l = insS x l
  | [] => rfl
  | y :: r => by
    have e : insI x (y :: r) = (match iblt y x with | true => y :: insI x r | false => x :: y :: r) := rfl
    rw [e, iblt_eq, insI_eq x r, insS]
    by_cases hh : y < x <;> simp [hh]
theorem sortI_eq : ∀ l : List Int, sortI l = sortS l
  | [] => rfl
  | x :: r => by
    have e : sortI (x :: r) = insI x (sortI r) := rfl
    rw [e, insI_eq, sortI_eq r, sortS]
theorem intsOf_cons (e : FV × FV × Nat) (r : List (FV × FV × Nat)) : intsOf (e :: r) = (match e.1 with
    | .int _ .i64 a => match intsOf r with | some l => some (a :: l) | none => none
    | _ => none) := rfl
theorem intsOf_sound : ∀ {es : List (FV × FV × Nat)} {l : List Int}, intsOf es = some l → keysS (absM β es) = some l
  | [], l, hl => by simp [intsOf, lrec] at hl; subst hl; rfl
  | e :: r, l, hl => by
    rw [intsOf_cons] at hl
    simp only [absM, List.map_cons, keysS]
    split at hl
    · rename_i lb a he
      split at hl
      · rename_i l' hl'
        simp only [Option.some.injEq] at hl; subst hl
        have ih := intsOf_sound hl'
        simp only [absM] at ih
        rw [he]
        simp only [isInt_abs, ih]
      · simp at hl
    · simp at hl
theorem memB_mem (n : Nat) : ∀ l : List Nat, memB n l = memN n l
  | [] => rfl
  | m :: r => by
    have e : memN n (m :: r) = (match Nat.beq n m with | true => true | false => memN n r) := rfl
    rw [e, memB, memB_mem n r]
    cases Nat.beq n m <;> rfl
theorem ndN_sound : ∀ {l : List Nat}, ndN l = true → l.Nodup
  | [], _ => List.nodup_nil
  | x :: r, h => by
    obtain ⟨h1, h2⟩ := band_true (show band (bnot (memN x r)) (ndN r) = true from h)
    rw [bnot_eq, memN_eq] at h1
    exact List.nodup_cons.2 ⟨by simpa using h1, ndN_sound h2⟩
theorem memI_eq (x : Int) : ∀ l : List Int, memI x l = l.contains x
  | [] => rfl
  | y :: r => by
    have e : memI x (y :: r) = bor (ieq x y) (memI x r) := rfl
    rw [e, memI_eq x r, ieq_eq, List.contains_cons]
    cases hx : (x == y) <;> cases hy : r.contains x <;> simp_all [bor]
theorem ndI_sound : ∀ {l : List Int}, ndI l = true → l.Nodup
  | [], _ => List.nodup_nil
  | x :: r, h => by
    obtain ⟨h1, h2⟩ := band_true (show band (bnot (memI x r)) (ndI r) = true from h)
    rw [bnot_eq, memI_eq] at h1
    exact List.nodup_cons.2 ⟨by simpa using h1, ndI_sound h2⟩
theorem keysOk_sound {l : List Int} {bs : List Nat} {c : Nat} (h : keysOkF l bs c = true) : keysOkS l bs c = true := by
  unfold keysOkF at h
  obtain ⟨h1, h2⟩ := band_true h
  obtain ⟨h2, h3⟩ := band_true h2
  obtain ⟨h3, h4⟩ := band_true h3
  unfold keysOkS
  simp only [Bool.and_eq_true, decide_eq_true_eq]
  refine ⟨ndI_sound h1, ndN_sound h2, ?_, ?_⟩
  · rw [lall_eq, List.all_eq_true] at h3
    rw [List.all_eq_true]
    intro x hx
    exact decide_eq_true (nblt (h3 x hx))
  · rw [lall_eq, List.all_eq_true] at h4
    rw [List.all_eq_true]
    intro x hx
    obtain ⟨p1, p2⟩ := band_true (h4 x hx)
    rw [bnot_eq, iblt_eq] at p1 p2
    simp only [Bool.not_eq_true', decide_eq_false_iff_not] at p1 p2
    have e1 : Int.negSucc 9223372036854775807 = -9223372036854775808 := rfl
    have e2 : Int.ofNat 9223372036854775807 = 9223372036854775807 := rfl
    rw [e1] at p1
    rw [e2] at p2
    simp only [Bool.and_eq_true, decide_eq_true_eq]
    omega
theorem fsorted_told {args : List FV} : Told β h (sortedP L (absH β h) (absL β args)) (fsorted L h args) := by
  unfold fsorted
  split
  · rename_i kf k o
    split
    · rename_i hb
      obtain ⟨b1, b2⟩ := band_true hb
      rw [← memB_mem] at b1
      have hb' : (memB kf L.keysFn && Nat.beq o 0) = true := by rw [b1, b2]; rfl
      split
      · rename_i b m ty hk
        obtain ⟨h1, h2⟩ := hget_sound (β := β) hk
        split
        · rename_i bm es c hm
          obtain ⟨g1, g2⟩ := hget_sound (β := β) hm
          rw [absE_mapc] at g1
          split
          · rename_i l hl
            have hl := intsOf_sound (β := β) hl
            split
            · trivial
            rename_i hko
            have hko := keysOk_sound hko
            rw [lmap_eq] at hko
            have hko' : keysOkS l ((absM β es).map (fun e => e.2.2)) c = true := by
              rw [← hko]; unfold absM; rw [List.map_map]; rfl
            clear hko
            split
            · refine ⟨rfl, True, ?_, trivial⟩
              simp only [absL, absV, sortedP, hb', h1, absE, absO, absC_l, g1, hl, hko']
              rfl
            · split
              · rename_i hc
                obtain ⟨c1, c2⟩ := band_true hc
                have c1 := nblt c1
                rw [llen_eq] at c2
                refine ⟨rfl, c1, _, _, by simp only [absL, absV, sortedP, hb', h1, absE, absO, absC_l, g1, hl, hko', c2]; rfl, eqsOk_nil, ?_⟩
                simp only [hpush_abs c1, absO, absC_l, absH_len, absV, offA, opE, fzAbs, List.foldl_nil, List.drop_zero, llen_eq, lmap_eq, sortI_eq]
                have : ∀ l : List Int, absL β (l.map (FV.int true .i64)) = l.map (SV.lit .i64) := by
                  intro l; rw [absL_eq, List.map_map]; rfl
                rw [this]
              · trivial
          · trivial
        · trivial
      · trivial
    · trivial
  · trivial
theorem glB_sound : ∀ {l : List Int} {cs : List FV}, glB l cs = true → SV.dens ids (absL β cs) = l.map (Value.int .u32)
  | [], [], _ => rfl
  | [], _ :: _, hg => by simp [glB, lrec] at hg
  | x :: l, [], hg => by simp [glB, lrec] at hg
  | x :: l, c :: cs, hg => by
    have e : glB (x :: l) (c :: cs) = (match c :: cs with
      | .int true .u32 y :: r => band (ieq x y) (glB l r)
      | _ => false) := rfl
    rw [e] at hg
    split at hg
    · rename_i y r he
      simp only [List.cons.injEq] at he
      obtain ⟨rfl, rfl⟩ := he
      obtain ⟨h1, h2⟩ := band_true hg
      simp only [absL, SV.dens, absV, mkInt, SV.den, glB_sound h2, List.map_cons, ieq_sound h1]
    · simp at hg
theorem fglob0_sound (hg : fglob0 L h = true) : sglob0 L (absH β h) := by
  unfold fglob0 at hg
  split at hg
  · rename_i cs ty hk
    obtain ⟨h1, h2⟩ := band_true hg
    have h1 := nbeq h1
    obtain ⟨g1, _⟩ := hget_sound (β := β) hk
    obtain ⟨A, B, hAB⟩ := denL_split (absH β h).ids g1
    refine ⟨A, B, ?_⟩
    have := (hAB (0, none)).2
    unfold Hp.den
    rw [this]
    simp only [absE, absO, absC_l, Ent.den, SO.den, glB_sound h2, h1]
  · simp at hg
theorem fconst_told {n : Nat} {args : List FV} : Told β h (sconst L (absH β h) n (absL β args)) (fconst L h n args) := by
  unfold fconst
  split
  · split
    · rename_i need c hc
      rw [lget_getElem] at hc
      split
      · rename_i hb
        obtain ⟨b1, b2⟩ := band_true hb
        have hv : scalV c = some (absV β c) := by
          cases c <;> first | rfl | (simp [isScal] at b1)
        refine ⟨rfl, _, by simp only [sconst, absL, hc, hv]; rfl, ?_⟩
        intro hn
        subst hn
        exact fglob0_sound b2
      · trivial
    · trivial
  · trivial
theorem sext_ge {n : Nat} {H : Hp} {args : List SV} (hle : Nat.ble 10 n = true) : sext L H n args = sconst L H (n - 10) args := by
  unfold sext
  split
  · simp at hle
  · simp at hle
  · simp at hle
  · rw [hle]
theorem fextP_told {n : Nat} {args : List FV} : Told β h (sext L (absH β h) n (absL β args)) (fextP L h n args) := by
  unfold fextP
  split
  · split
    · exact ⟨rfl, True, rfl, trivial⟩
    · trivial
  · split
    · rename_i l a
      split
      · rename_i hb
        obtain ⟨b1, b2⟩ := band_true hb
        have b1 := nblt b1
        refine ⟨rfl, b1, _, _, by simp only [sext, makeNoZeroP, absL, isInt_abs, b2]; rfl, eqsOk_nil, ?_⟩
        simp only [hpush_abs b1, absO, absC_l, absL, absH_len, absV, offA, opE, fzAbs, List.foldl_nil, List.drop_zero]
      · trivial
    · trivial
  · exact fsorted_told
  · split
    · rename_i hle
      rw [sext_ge hle]
      exact fconst_told
    · trivial
theorem fbuiltin_told (hn : h.n ≤ 1000000) {bi : Builtin} {ts : List TypeId} {l : List FV} : Told β h (sbuiltin L.P (absH β h) bi ts (absL β l)) (fbuiltin L h bi ts l) := by
  unfold fbuiltin
  split
  · split
    · rename_i t r
      split
      · cases r with
        | nil => exact fappend_told hn
        | cons u r => exact fappend_told hn
      · trivial
    · trivial
  · split
    · split
      · exact fcopy_told hn
      · trivial
    · trivial
  · split
    · split
      · exact fclear_told hn
      · trivial
    · trivial
  · split
    · split
      · exact fdelete_told hn
      · trivial
    · trivial
  · split
    · exact fsliceData_told
    · trivial
  · split
    · split
      · exact fstring_told hn
      · trivial
    · trivial
  · trivial
theorem fprim_told (hn : h.n ≤ 1000000) {op : Op} : Told β h (sprim L (absH β h) (absF β fr) op) (fprim L h fr op) := by
  unfold fprim sprim
  cases op <;> (try simp only) <;> (try exact trivial)
  case call c =>
    cases hc : c.callee with
    | builtin bi =>
      simp only
      cases hl : fopvs L h fr c.args.toList with
      | none => trivial
      | some l =>
        simp only [fopvs_sound (β := β) hl]
        exact fbuiltin_told hn
    | value x =>
      simp only
      cases hg : fcallee L h fr c with
      | none => trivial
      | some p =>
        obtain ⟨g, args⟩ := p
        simp only [(fcallee_sound (β := β) hg).1]
        exact fextP_told
    | invoke r m =>
      simp only
      cases hg : fcallee L h fr c with
      | none => trivial
      | some p =>
        obtain ⟨g, args⟩ := p
        simp only [(fcallee_sound (β := β) hg).1]
        exact fextP_told
  case convert s d x =>
    cases ha : fopv L h fr x with
    | none => trivial
    | some a =>
      simp only [fopv_sound (β := β) ha]
      exact fconv_told
  case makeSlice t l c =>
    cases ha : fopv L h fr l with
    | none => trivial
    | some a =>
      cases hb : fopv L h fr c with
      | none => trivial
      | some b =>
        simp only [fopv_sound (β := β) ha, fopv_sound (β := β) hb]
        exact fmakeSlice_told
  case mapUpdate t m k v =>
    cases ha : fopv L h fr m with
    | none => trivial
    | some a =>
      cases hb : fopv L h fr k with
      | none => trivial
      | some b =>
        cases hc : fopv L h fr v with
        | none => trivial
        | some c =>
          simp only [fopv_sound (β := β) ha, fopv_sound (β := β) hb, fopv_sound (β := β) hc]
          exact fmapUpd_told hn
  case range t x =>
    cases ha : fopv L h fr x with
    | none => trivial
    | some a =>
      simp only [fopv_sound (β := β) ha]
      exact frange_told
  case next x s =>
    cases s with
    | true => trivial
    | false =>
      simp only
      cases ha : fopv L h fr x with
      | none => trivial
      | some a =>
        simp only [fopv_sound (β := β) ha]
        exact fnext_told hn
  case entry x =>
    cases ha : fopv L h fr x with
    | none => trivial
    | some a =>
      simp only [fopv_sound (β := β) ha]
      exact fentryR_told
end
theorem primSim (L : FCfg) : PrimSim L (sprim L) := by
  intro β h fr op hn
  have hb := fun β => fprim_told (β := β) (L := L) (h := h) (fr := fr) (op := op) hn
  cases hf : fprim L h fr op with
  | no => trivial
  | det h' v =>
    have := hb β
    rw [hf] at this
    exact this
  | new h' v =>
    have h0 := hb β
    rw [hf] at h0
    obtain ⟨h1, h2, f, eqs, h3, h4, h5⟩ := h0
    refine ⟨h1, h2, f, eqs, h3, h4, fun β' e1 e2 => ?_⟩
    have h6 := hb β'
    rw [hf] at h6
    obtain ⟨_, _, f', eqs', h7, _, h9⟩ := h6
    rw [e1, e2, h3] at h7
    simp only [PR.new.injEq] at h7
    rw [h7.1]
    exact h9
end Go.Fx
