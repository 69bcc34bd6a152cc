import Derived.Test.YtaalpiacinifkaaGreatDoorF5
/- Part of the proof that ForwardNone of law 21 returns true whatever it is called with. No condition. -/
set_option linter.all false
/- The executor 'Fx', with what is known ahead worked out once (the kernel keeps it). -/
namespace Go.Fx
open Go Go.Sx
/-- Something that is worked out once. -/
structure Bx (α : Type) where
  f : α
noncomputable section
def cget (g : Nat) : Nat → Bx (FFr → Option FV) :=
  nrec (β := Nat → Bx (FFr → Option FV)) (fun _ => ⟨fun _ => none⟩) (fun _ ih t => match t with
    | 0 => ⟨fun fr => Tr.casesOn (motive := fun _ => Option FV) fr none (fun _ x _ => x)⟩
    | m + 1 => match Nat.beq (Nat.mod m 2) 0 with
      | true => ⟨fun fr => Tr.casesOn (motive := fun _ => Option FV) fr none (fun l _ _ => (ih (Nat.div m 2)).f l)⟩
      | false => ⟨fun fr => Tr.casesOn (motive := fun _ => Option FV) fr none (fun _ _ r => (ih (Nat.div m 2)).f r)⟩) g
def cset (g : Nat) : Nat → Bx (FFr → FV → FFr) :=
  nrec (β := Nat → Bx (FFr → FV → FFr)) (fun _ => ⟨fun _ _ => .e⟩) (fun _ ih t => match t with
    | 0 => ⟨fun fr v => Tr.casesOn (motive := fun _ => FFr) fr (.n .e (some v) .e) (fun l _ r => .n l (some v) r)⟩
    | m + 1 => match Nat.beq (Nat.mod m 2) 0 with
      | true => ⟨fun fr v => Tr.casesOn (motive := fun _ => FFr) fr (.n ((ih (Nat.div m 2)).f .e v) none .e) (fun l x r => .n ((ih (Nat.div m 2)).f l v) x r)⟩
      | false => ⟨fun fr v => Tr.casesOn (motive := fun _ => FFr) fr (.n .e none ((ih (Nat.div m 2)).f .e v)) (fun l x r => .n l x ((ih (Nat.div m 2)).f r v))⟩) g
def cputD (nt : Nat) (d : Option Nat) : Bx (FFr → FV → FFr) :=
  match d with
  | none => ⟨fun fr _ => fr⟩
  | some t => match Nat.ble (Nat.succ t) nt with
    | false => ⟨fun _ _ => .e⟩
    | true => match Nat.ble t 4000 with
      | false => ⟨fun _ _ => .e⟩
      | true => ⟨(cset 13 t).f⟩
def copd (L : FCfg) (x : Operand) : Bx (FH → FFr → Option FV) :=
  match x with
  | .tmp t => match Nat.ble t 4000 with
    | true => ⟨fun _ fr => (cget 13 t).f fr⟩
    | false => ⟨fun _ fr => tget fr t⟩
  | .const x => ⟨fun _ _ => fcst x⟩
  | .global g => ⟨fun h _ => fglob h g L.globs⟩
  | .func g => ⟨fun _ _ => some (.fn (.func g) [] [])⟩
def mapO (f : FV → Option FV) (x : Option FV) : Option FV := match x with | some v => f v | none => none
/-! ### Operators -/
def cbin (P : Program) (o : BinOp) (t : TypeId) : Bx (FH → FV → FV → Option FV) :=
  match o with
  | .add => ⟨fun h x y => match x with
    | .int l k a => match y with
      | .int l' k' b => match kEq k k' with
        | true => some (.int (band l l') k (fwrap k (Int.add a b)))
        | false => none
      | _ => none
    | _ => fbin P h .add t x y⟩
  | .sub => ⟨fun h x y => match x with
    | .int l k a => match y with
      | .int l' k' b => match kEq k k' with
        | true => some (.int (band l l') k (fwrap k (Int.sub a b)))
        | false => none
      | _ => none
    | _ => fbin P h .sub t x y⟩
  | .lss => ⟨fun h x y => match x with
    | .int l k a => match y with
      | .int l' k' b => match kEq k k' with
        | true => some (.bool (band l l') (iblt a b))
        | false => none
      | _ => none
    | _ => fbin P h .lss t x y⟩
  | .gtr => ⟨fun h x y => match x with
    | .int l k a => match y with
      | .int l' k' b => match kEq k k' with
        | true => some (.bool (band l l') (iblt b a))
        | false => none
      | _ => none
    | _ => fbin P h .gtr t x y⟩
  | .geq => ⟨fun h x y => match x with
    | .int l k a => match y with
      | .int l' k' b => match kEq k k' with
        | true => some (.bool (band l l') (bnot (iblt a b)))
        | false => none
      | _ => none
    | _ => fbin P h .geq t x y⟩
  | .leq => ⟨fun h x y => match x with
    | .int l k a => match y with
      | .int l' k' b => match kEq k k' with
        | true => some (.bool (band l l') (bnot (iblt b a)))
        | false => none
      | _ => none
    | _ => fbin P h .leq t x y⟩
  | .eql => ⟨fun h x y => match x with
    | .int l k a => match y with
      | .int l' k' b => match kEq k k' with
        | true => some (.bool (band l l') (ieq a b))
        | false => none
      | _ => none
    | _ => fbin P h .eql t x y⟩
  | .neq => ⟨fun h x y => match x with
    | .int l k a => match y with
      | .int l' k' b => match kEq k k' with
        | true => some (.bool (band l l') (bnot (ieq a b)))
        | false => none
      | _ => none
    | _ => fbin P h .neq t x y⟩
  | o => ⟨fun h x y => fbin P h o t x y⟩
def cfield (P : Program) (t : TypeId) (i : Nat) : Bx (FV → Option FV) :=
  match fieldT P t i with
  | some (off, size, _) => match Nat.beq size 0 with
    | true => ⟨fun _ => none⟩
    | false => ⟨fun x => match x with
      | .ptr k o => some (.ptr k (Nat.add o off))
      | .elt k e sz j => some (.elt k e sz (Nat.add j off))
      | _ => none⟩
  | none => ⟨fun _ => none⟩
def loadK (P : Program) (t : TypeId) : Bx (FC → Nat → Option FV) :=
  match isAggT P t with
  | some true => ⟨fun c off => match cSub c off (P.cellsOf t) with | some l => some (.agg (cList l)) | none => none⟩
  | some false => ⟨fun c off => cGet c off⟩
  | none => ⟨fun _ _ => none⟩
def cellsH (h : FH) (k : Nat) : Option FC :=
  match Nat.blt k h.n with
  | true => match tget h.t k with
    | some (_, some fo) => fcOf fo
    | _ => none
  | false => none
def cload (P : Program) (t : TypeId) : Bx (FH → FV → Option FV) :=
  ⟨fun h x => match x with
    | .ptr k off => match cellsH h k with | some c => (loadK P t).f c off | none => none
    | .elt k i sz j => match cellsH h k with | some c => (loadK P t).f c (Nat.add (Nat.mul i sz) j) | none => none
    | _ => none⟩
/-- What an operation yields that leaves the memory alone. -/
def cq (L : FCfg) (op : Op) : Bx (FH → FFr → List (Nat × Bool) → Option FV) :=
  match op with
  | .move x => ⟨fun h fr _ => (copd L x).f h fr⟩
  | .assign x => ⟨fun h fr _ => (copd L x).f h fr⟩
  | .pick c a b => ⟨fun h fr dec => xPick L h fr dec c a b⟩
  | .build t ps => ⟨fun h fr _ => xBuild L h fr t ps.toList⟩
  | .field t x i => ⟨fun h fr _ => xField L h fr t x i⟩
  | .fieldAddr t x i => ⟨fun h fr _ => mapO (cfield L.P t i).f ((copd L x).f h fr)⟩
  | .indexAddr t x i => ⟨fun h fr _ => xIndexAddr L h fr t x i⟩
  | .index t x i => ⟨fun h fr _ => xIndex L h fr t x i⟩
  | .slice t x lo hi mx => ⟨fun h fr _ => xSlice L h fr t x lo hi mx⟩
  | .load t x => ⟨fun h fr _ => mapO ((cload L.P t).f h) ((copd L x).f h fr)⟩
  | .nilCheck x => ⟨fun h fr _ => xNilCheck L h fr x⟩
  | .binOp o t x y _ => ⟨fun h fr _ => match (copd L x).f h fr with
    | some a => match (copd L y).f h fr with
      | some b => (cbin L.P o t).f h a b
      | none => none
    | none => none⟩
  | .unOp o _ x => ⟨fun h fr _ => xUnOp L h fr o x⟩
  | .convert s d x => ⟨fun h fr _ => xConvert L h fr s d x⟩
  | .makeInterface t x => ⟨fun h fr _ => xMakeInterface L h fr t x⟩
  | .makeFunc f l c => ⟨fun h fr _ => xMakeFunc L h fr f l.toList c.toList⟩
  | .extract x i => ⟨fun h fr _ => xExtract L h fr x i⟩
  | .lookup t x ix ok => ⟨fun h fr _ => xLookup L h fr t x ix ok⟩
  | .call c => ⟨fun h fr _ => xCall L h fr c⟩
  | _ => ⟨fun _ _ _ => none⟩
/-- Is an operation quiet for sure? -/
def isQ (op : Op) : Bool :=
  match op with
  | .move _ | .assign _ | .pick .. | .build .. | .field .. | .fieldAddr .. | .indexAddr .. | .index .. | .slice .. | .load .. | .nilCheck _ | .binOp .. | .unOp .. | .makeInterface .. | .makeFunc .. | .extract .. | .lookup .. => true
  | _ => false
/-- What comes of a state. -/
abbrev KT := FH → Nat → Nat → FFr → List SItem → List FF → FSt
def KT.at (K : KT) (s : FSt) : FSt := match s with | ⟨h, ⟨fn, nt, fr, todo⟩, stk⟩ => K h fn nt fr todo stk
def slow (L : FCfg) (K : KT) (s : FSt) : FSt :=
  match fstep L s with
  | .go s' => K.at s'
  | .new s' => K.at s'
  | .stop => s
/-- What is left of a region (all guards that are met are closed). -/
def cseq (L : FCfg) (nt : Nat) (ops : Array Oper) (l : List Oper) : Nat → Bx (KT → FH → Nat → FFr → List SItem → List FF → FSt) :=
  lrec (β := Nat → Bx (KT → FH → Nat → FFr → List SItem → List FF → FSt)) (fun _ => ⟨fun K h fn fr k stk => K h fn nt fr k stk⟩)
    (fun o rest ih i => match o.guard with
      | some _ => ⟨fun K h fn fr k stk => slow L K ⟨h, ⟨fn, nt, fr, .reg ops i (o :: rest) [] :: k⟩, stk⟩⟩
      | none => match isQ o.op with
        | true => ⟨fun K h fn fr k stk => match (cq L o.op).f h fr [] with
          | some v => (ih (Nat.succ i)).f K h fn ((cputD nt o.dst).f fr v) k stk
          | none => ⟨h, ⟨fn, nt, fr, .reg ops i (o :: rest) [] :: k⟩, stk⟩⟩
        | false => ⟨fun K h fn fr k stk => slow L K ⟨h, ⟨fn, nt, fr, .reg ops i (o :: rest) [] :: k⟩, stk⟩⟩) l
def ccode (L : FCfg) (nt : Nat) (g : Nat) : Code → Bx (KT → FH → Nat → FFr → List SItem → List FF → FSt) :=
  nrec (β := Code → Bx (KT → FH → Nat → FFr → List SItem → List FF → FSt)) (fun c => ⟨fun K h fn fr k stk => K h fn nt fr (.code c :: k) stk⟩)
    (fun _ ih c => match c with
  | .seq a c => ⟨fun K h fn fr k stk => (ih a).f K h fn fr (.code c :: k) stk⟩
  | .cond x a c => ⟨fun K h fn fr k stk => match (copd L x).f h fr with
    | some (.bool _ y) => match y with
      | true => (ih a).f K h fn fr k stk
      | false => (ih c).f K h fn fr k stk
    | _ => ⟨h, ⟨fn, nt, fr, .code (.cond x a c) :: k⟩, stk⟩⟩
  | .block id c => ⟨fun K h fn fr k stk => (ih c).f K h fn fr (.blk id :: k) stk⟩
  | .skip => ⟨fun K h fn fr k stk => K h fn nt fr k stk⟩
  | .loop c => ⟨fun K h fn fr k stk => (ih c).f K h fn fr (.loop c :: k) stk⟩
  | .region _ ops draw => match draw with
    | false => ⟨fun K h fn fr k stk => (cseq L nt ops ops.toList 0).f K h fn fr k stk⟩
    | true => match canon L.P ops.toList with
      | some r => ⟨fun K h fn fr k stk => K h fn nt fr (.dreg ops r [] :: k) stk⟩
      | none => ⟨fun K h fn fr k stk => ⟨h, ⟨fn, nt, fr, .code c :: k⟩, stk⟩⟩
  | c => ⟨fun K h fn fr k stk => slow L K ⟨h, ⟨fn, nt, fr, .code c :: k⟩, stk⟩⟩) g
def citem (L : FCfg) (nt : Nat) (i : SItem) : Bx (KT → FH → Nat → FFr → List SItem → List FF → FSt) :=
  match i with
  | .code c => ⟨(ccode L nt 200 c).f⟩
  | .blk _ => ⟨fun K h fn fr k stk => K h fn nt fr k stk⟩
  | .scope _ => ⟨fun K h fn fr k stk => K h fn nt fr k stk⟩
  | .loop c => ⟨fun K h fn fr k stk => (ccode L nt 200 c).f K h fn fr (.loop c :: k) stk⟩
  | .reg ops i l dec => match dec with
    | [] => ⟨(cseq L nt ops l i).f⟩
    | _ => ⟨fun K h fn fr k stk => slow L K ⟨h, ⟨fn, nt, fr, .reg ops i l dec :: k⟩, stk⟩⟩
  | .dreg ops l dec => ⟨fun K h fn fr k stk => slow L K ⟨h, ⟨fn, nt, fr, .dreg ops l dec :: k⟩, stk⟩⟩
def cstep (L : FCfg) (K : KT) : KT := fun h fn nt fr todo stk =>
  match todo with
  | [] => slow L K ⟨h, ⟨fn, nt, fr, []⟩, stk⟩
  | i :: k => (citem L nt i).f K h fn fr k stk
def crun (L : FCfg) (n : Nat) : KT :=
  nrec (β := KT) (fun h fn nt fr todo stk => ⟨h, ⟨fn, nt, fr, todo⟩, stk⟩) (fun _ ih => cstep L ih) n
end
end Go.Fx

/- The executor 'Fx', with what is known ahead worked out once: sound. -/
namespace Go.Fx
open Go Go.Sx
theorem cget_eq : ∀ (g t : Nat) (fr : FFr), t + 1 < 2 ^ g → (cget g t).f fr = tget fr t
  | 0, t, _, h => by simp at h
  | g + 1, 0, fr, _ => by cases fr <;> rfl
  | g + 1, m + 1, fr, h => by
    have hp : 2 ^ (g + 1) = 2 * 2 ^ g := by rw [Nat.pow_succ]; omega
    have e : cget (g + 1) (m + 1) = (match Nat.beq (Nat.mod m 2) 0 with
      | true => ⟨fun fr => Tr.casesOn (motive := fun _ => Option FV) fr none (fun l _ _ => (cget g (Nat.div m 2)).f l)⟩
      | false => ⟨fun fr => Tr.casesOn (motive := fun _ => Option FV) fr none (fun _ _ r => (cget g (Nat.div m 2)).f r)⟩) := rfl
    rw [e]
    have ih := fun fr => cget_eq g (Nat.div m 2) fr (by rw [ndiv]; omega)
    cases fr with
    | e => cases Nat.beq (Nat.mod m 2) 0 <;> rfl
    | n l x r =>
      have e2 : tget (.n l x r) (m + 1) = Bool.rec (motive := fun _ => Option FV) (tget r (m / 2)) (tget l (m / 2)) (Nat.beq (m % 2) 0) := rfl
      rw [e2]
      have e3 : Nat.beq (Nat.mod m 2) 0 = Nat.beq (m % 2) 0 := rfl
      rw [e3]
      cases Nat.beq (m % 2) 0
      · exact ih r
      · exact ih l
theorem cset_eq : ∀ (g t : Nat) (fr : FFr) (v : FV), (cset g t).f fr v = tset g fr t v
  | 0, t, fr, v => rfl
  | g + 1, 0, fr, v => by cases fr <;> rfl
  | g + 1, m + 1, fr, v => by
    have e : cset (g + 1) (m + 1) = (match Nat.beq (Nat.mod m 2) 0 with
      | true => ⟨fun fr v => Tr.casesOn (motive := fun _ => FFr) fr (.n ((cset g (Nat.div m 2)).f .e v) none .e) (fun l x r => .n ((cset g (Nat.div m 2)).f l v) x r)⟩
      | false => ⟨fun fr v => Tr.casesOn (motive := fun _ => FFr) fr (.n .e none ((cset g (Nat.div m 2)).f .e v)) (fun l x r => .n l x ((cset g (Nat.div m 2)).f r v))⟩) := rfl
    rw [e]
    have ih := fun fr => cset_eq g (Nat.div m 2) fr v
    have e2 : tset (g + 1) fr (m + 1) v = Bool.rec (motive := fun _ => FFr)
        (Tr.rec (motive := fun _ => FFr) (.n .e none (tset g .e (m / 2) v)) (fun l x r _ _ => .n l x (tset g r (m / 2) v)) fr)
        (Tr.rec (motive := fun _ => FFr) (.n (tset g .e (m / 2) v) none .e) (fun l x r _ _ => .n (tset g l (m / 2) v) x r) fr)
        (Nat.beq (m % 2) 0) := rfl
    rw [e2]
    have e3 : Nat.beq (Nat.mod m 2) 0 = Nat.beq (m % 2) 0 := rfl
    rw [e3]
    cases Nat.beq (m % 2) 0 <;> cases fr <;> simp only [ih] <;> rfl
theorem cputD_eq (nt : Nat) (d : Option Nat) (fr : FFr) (v : FV) : (cputD nt d).f fr v = fputD fr nt d v := by
  unfold cputD fputD
  cases d with
  | none => rfl
  | some t =>
    simp only
    cases Nat.ble (Nat.succ t) nt
    · rfl
    · simp only [tput]
      cases Nat.ble t 4000
      · rfl
      · exact cset_eq 13 t fr v
theorem copd_eq (L : FCfg) (x : Operand) (h : FH) (fr : FFr) : (copd L x).f h fr = fopv L h fr x := by
  cases x with
  | tmp t =>
    simp only [copd, fopv]
    cases hb : Nat.ble t 4000
    · rfl
    · exact cget_eq 13 t fr (by have := nble hb; omega)
  | const x => rfl
  | global g => rfl
  | func g => rfl
theorem cbin_eq (P : Program) (o : BinOp) (t : TypeId) (h : FH) (x y : FV) : (cbin P o t).f h x y = fbin P h o t x y := by
  cases o <;> (try rfl)
  all_goals
    simp only [cbin]
    cases x <;> try rfl
    cases y <;> try rfl
    rename_i l k a l' k' b
    simp only [fbin, fbinI]
    cases kEq k k' <;> rfl
theorem xFieldAddr_c (L : FCfg) (h : FH) (fr : FFr) (t : TypeId) (x : Operand) (i : Nat) : mapO (cfield L.P t i).f (fopv L h fr x) = xFieldAddr L h fr t x i := by
  unfold xFieldAddr cfield
  cases hf : fieldT L.P t i with
  | none => cases fopv L h fr x <;> rfl
  | some p =>
    obtain ⟨off, size, ft⟩ := p
    simp only
    cases Nat.beq size 0
    · cases hx : fopv L h fr x with
      | none => rfl
      | some v => cases v <;> rfl
    · cases fopv L h fr x <;> rfl
theorem loadK_eq (P : Program) (t : TypeId) (c : FC) (off : Nat) : (loadK P t).f c off = (match isAggT P t with | some agg => loadC P t agg c off | none => none) := by
  unfold loadK
  cases isAggT P t with
  | none => rfl
  | some b => cases b <;> rfl
theorem cellsH_eq (P : Program) (h : FH) (t : TypeId) (k off : Nat) : (match cellsH h k with | some c => (loadK P t).f c off | none => none) = loadAt P h t k off := by
  unfold cellsH loadAt hget
  cases Nat.blt k h.n
  · rfl
  · simp only
    cases tget h.t k with
    | none => rfl
    | some e =>
      obtain ⟨b, o⟩ := e
      cases o with
      | none => rfl
      | some fo =>
        simp only
        cases fcOf fo with
        | none => rfl
        | some c => exact loadK_eq P t c off
theorem cload_eq (P : Program) (t : TypeId) (h : FH) (x : FV) : (cload P t).f h x = fload P h t x := by
  cases x <;> try rfl
  · exact cellsH_eq P h t _ _
  · exact cellsH_eq P h t _ _
theorem cq_eq (L : FCfg) (op : Op) (h : FH) (fr : FFr) (dec : List (Nat × Bool)) : (cq L op).f h fr dec = fquiet L h fr dec op := by
  cases op <;> (try rfl)
  case move x => exact copd_eq L x h fr
  case assign x => exact copd_eq L x h fr
  case load t x =>
    simp only [cq, fquiet, copd_eq]
    cases fopv L h fr x with
    | none => rfl
    | some v => exact cload_eq _ _ _ _
  case binOp o t x y yt =>
    simp only [cq, fquiet, copd_eq]
    cases fopv L h fr x with
    | none => rfl
    | some a =>
      cases fopv L h fr y with
      | none => rfl
      | some b => exact cbin_eq _ _ _ _ _ _
  case fieldAddr t x i =>
    simp only [cq, fquiet, copd_eq]
    exact xFieldAddr_c L h fr t x i
section
variable {L : FCfg} {fnb : Nat} {Q : List (Nat × Obj) → Value → Prop}
/-- What comes of a state is right for it. -/
def KOk (L : FCfg) (fnb : Nat) (Q : List (Nat × Obj) → Value → Prop) (K : KT) : Prop := ∀ h fn nt fr todo stk, FGood L fnb Q (K h fn nt fr todo stk) → FGood L fnb Q ⟨h, ⟨fn, nt, fr, todo⟩, stk⟩
/-- One step. -/
def StepOk (L : FCfg) (fnb : Nat) (Q : List (Nat × Obj) → Value → Prop) : Prop := ∀ s : FSt, (match fstep L s with
    | .go s' => FGood L fnb Q s'
    | .new s' => FGood L fnb Q s'
    | .stop => FGood L fnb Q s) → FGood L fnb Q s
theorem kat {K : KT} (hK : KOk L fnb Q K) (s : FSt) (h : FGood L fnb Q (K.at s)) : FGood L fnb Q s := by
  obtain ⟨h0, ⟨fn, nt, fr, todo⟩, stk⟩ := s
  exact hK _ _ _ _ _ _ h
theorem slow_ok (hS : StepOk L fnb Q) {K : KT} (hK : KOk L fnb Q K) (s : FSt) (h : FGood L fnb Q (slow L K s)) : FGood L fnb Q s := by
  apply hS
  unfold slow at h
  cases hf : fstep L s with
  | go s' => rw [hf] at h; exact kat hK s' h
  | new s' => rw [hf] at h; exact kat hK s' h
  | stop => rw [hf] at h; exact h
theorem decPut_nil (nt : Nat) (d : Option Nat) : decPut [] nt d = [] := by
  cases d with
  | none => rfl
  | some t => simp only [decPut]; split <;> rfl
theorem cseq_cons (nt : Nat) (ops : Array Oper) (o : Oper) (rest : List Oper) (i : Nat) : cseq L nt ops (o :: rest) i = (match o.guard with
      | some _ => ⟨fun K h fn fr k stk => slow L K ⟨h, ⟨fn, nt, fr, .reg ops i (o :: rest) [] :: k⟩, stk⟩⟩
      | none => match isQ o.op with
        | true => ⟨fun K h fn fr k stk => match (cq L o.op).f h fr [] with
          | some v => (cseq L nt ops rest (Nat.succ i)).f K h fn ((cputD nt o.dst).f fr v) k stk
          | none => ⟨h, ⟨fn, nt, fr, .reg ops i (o :: rest) [] :: k⟩, stk⟩⟩
        | false => ⟨fun K h fn fr k stk => slow L K ⟨h, ⟨fn, nt, fr, .reg ops i (o :: rest) [] :: k⟩, stk⟩⟩) := rfl
theorem cseq_ok (hS : StepOk L fnb Q) {K : KT} (hK : KOk L fnb Q K) {nt : Nat} {ops : Array Oper} : ∀ (l : List Oper) (i : Nat) (h : FH) (fn : Nat) (fr : FFr) (k : List SItem) (stk : List FF),
    FGood L fnb Q ((cseq L nt ops l i).f K h fn fr k stk) → FGood L fnb Q ⟨h, ⟨fn, nt, fr, .reg ops i l [] :: k⟩, stk⟩
  | [], i, h, fn, fr, k, stk, hg => by
    apply hS
    exact hK _ _ _ _ _ _ hg
  | o :: rest, i, h, fn, fr, k, stk, hg => by
    rw [cseq_cons] at hg
    cases ho : o.guard with
    | some p => rw [ho] at hg; exact slow_ok hS hK _ hg
    | none =>
      rw [ho] at hg
      simp only at hg
      cases hq : isQ o.op with
      | false => rw [hq] at hg; exact slow_ok hS hK _ hg
      | true =>
        rw [hq] at hg
        simp only [cq_eq] at hg
        cases hv : fquiet L h fr [] o.op with
        | none => rw [hv] at hg; exact hg
        | some v =>
          rw [hv] at hg
          simp only [cputD_eq] at hg
          apply hS
          have hgd : fguard ops.toList fr [] o = .yes := by unfold fguard; rw [ho]
          have e : fstep L ⟨h, ⟨fn, nt, fr, .reg ops i (o :: rest) [] :: k⟩, stk⟩ = .go ⟨h, ⟨fn, nt, fputD fr nt o.dst v, .reg ops (Nat.succ i) rest [] :: k⟩, stk⟩ := by
            simp only [fstep, fstepReg, hgd, hv, decPut_nil]
          rw [e]
          exact cseq_ok hS hK rest _ _ _ _ _ _ hg
theorem ccode_ok (hS : StepOk L fnb Q) {K : KT} (hK : KOk L fnb Q K) {nt : Nat} : ∀ (g : Nat) (c : Code) (h : FH) (fn : Nat) (fr : FFr) (k : List SItem) (stk : List FF),
    FGood L fnb Q ((ccode L nt g c).f K h fn fr k stk) → FGood L fnb Q ⟨h, ⟨fn, nt, fr, .code c :: k⟩, stk⟩
  | 0, c, h, fn, fr, k, stk, hg => hK _ _ _ _ _ _ hg
  | g + 1, c, h, fn, fr, k, stk, hg => by
    have ih := ccode_ok hS hK (nt := nt) g
    cases c with
    | skip => apply hS; exact hK _ _ _ _ _ _ hg
    | seq a c => apply hS; exact ih a _ _ _ _ _ hg
    | cond x a c =>
      have hg : FGood L fnb Q (match (copd L x).f h fr with
        | some (.bool _ y) => match y with
          | true => (ccode L nt g a).f K h fn fr k stk
          | false => (ccode L nt g c).f K h fn fr k stk
        | _ => ⟨h, ⟨fn, nt, fr, .code (.cond x a c) :: k⟩, stk⟩) := hg
      rw [copd_eq] at hg
      have e : fstep L ⟨h, ⟨fn, nt, fr, .code (.cond x a c) :: k⟩, stk⟩ = (match fopv L h fr x with
        | some (.bool _ y) => match y with
          | true => .go ⟨h, ⟨fn, nt, fr, .code a :: k⟩, stk⟩
          | false => .go ⟨h, ⟨fn, nt, fr, .code c :: k⟩, stk⟩
        | _ => .stop) := rfl
      apply hS
      rw [e]
      cases hx : fopv L h fr x with
      | none => rw [hx] at hg; exact hg
      | some v =>
        rw [hx] at hg
        cases v with
        | bool l y =>
          cases y
          · exact ih c _ _ _ _ _ hg
          · exact ih a _ _ _ _ _ hg
        | _ => exact hg
    | block id c => apply hS; exact ih c _ _ _ _ _ hg
    | loop c =>
      apply hS
      show FGood L fnb Q ⟨h, ⟨fn, nt, fr, .loop c :: k⟩, stk⟩
      apply hS
      exact ih c _ _ _ _ _ hg
    | region id ops draw =>
      cases draw with
      | false =>
        apply hS
        exact cseq_ok hS hK _ _ _ _ _ _ _ hg
      | true =>
        have hg : FGood L fnb Q ((match canon L.P ops.toList with
          | some r => (⟨fun K h fn fr k stk => K h fn nt fr (.dreg ops r [] :: k) stk⟩ : Bx (KT → FH → Nat → FFr → List SItem → List FF → FSt))
          | none => ⟨fun K h fn fr k stk => ⟨h, ⟨fn, nt, fr, .code (.region id ops true) :: k⟩, stk⟩⟩).f K h fn fr k stk) := hg
        have e : fstep L ⟨h, ⟨fn, nt, fr, .code (.region id ops true) :: k⟩, stk⟩ = (match canon L.P ops.toList with
          | some r => .go ⟨h, ⟨fn, nt, fr, .dreg ops r [] :: k⟩, stk⟩
          | none => .stop) := rfl
        apply hS
        rw [e]
        cases hc : canon L.P ops.toList with
        | none => rw [hc] at hg; exact hg
        | some r => rw [hc] at hg; exact hK _ _ _ _ _ _ hg
    | rangeFunc f p a b => exact slow_ok hS hK _ hg
    | exit id => exact slow_ok hS hK _ hg
    | scope b => exact slow_ok hS hK _ hg
    | label l => exact slow_ok hS hK _ hg
    | goto l => exact slow_ok hS hK _ hg
    | ret => exact slow_ok hS hK _ hg
    | refuse w => exact slow_ok hS hK _ hg
theorem cstep_ok (hS : StepOk L fnb Q) {K : KT} (hK : KOk L fnb Q K) : KOk L fnb Q (cstep L K) := by
  intro h fn nt fr todo stk hg
  unfold cstep at hg
  cases todo with
  | nil => exact slow_ok hS hK _ hg
  | cons i k =>
    cases i with
    | code c => exact ccode_ok hS hK 200 c _ _ _ _ _ hg
    | blk id => apply hS; exact hK _ _ _ _ _ _ hg
    | scope c => apply hS; exact hK _ _ _ _ _ _ hg
    | loop c => apply hS; exact ccode_ok hS hK 200 c _ _ _ _ _ hg
    | reg ops i l dec =>
      cases dec with
      | nil => exact cseq_ok hS hK _ _ _ _ _ _ _ hg
      | cons d ds => exact slow_ok hS hK _ hg
    | dreg ops l dec => exact slow_ok hS hK _ hg
theorem crun_ok (hS : StepOk L fnb Q) : ∀ n, KOk L fnb Q (crun L n)
  | 0 => fun _ _ _ _ _ _ h => h
  | n + 1 => cstep_ok hS (crun_ok hS n)
/-- A run is worked out by computing. -/
theorem crun_good {prim : Hp → Fr → Op → PR} (hmix : L.P.follows .mixedOrders = true) (hP : PrimSim L prim) (hL : ExtOk L) (hPO : PrimOk (LC L prim)) (n : Nat) {s : FSt} (h : FGood L fnb Q ((crun L n).at s)) : FGood L fnb Q s :=
  kat (crun_ok (fun s h => fstep_good hmix hP hL hPO h) n) s h
end
end Go.Fx
