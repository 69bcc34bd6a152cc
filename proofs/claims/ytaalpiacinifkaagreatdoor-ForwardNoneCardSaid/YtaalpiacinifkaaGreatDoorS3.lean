import Derived.Test.YtaalpiacinifkaaGreatDoorS2
import Derived.Orders
/- Part of the proof that ForwardNone of law 21 returns true whatever it is called with. No condition. -/
set_option linter.all false
/- The symbolic executor 'Sx': the machine that is meant; its steps. -/
namespace Go.Sx
open Go

/-! ### The machine's steps -/
def bF (fn : Nat) : Frame := { fn, tmps := #[], todo := [], defers := [], mode := .run, kind := .normal }
section
variable {P : Program} {b : Frame} {a : Act} {k : List Item} {cs : List Frame} {w w' : World} {ops : Array Oper} {i : Nat} {rest : List Nat} {o : Oper}
theorem fin_at (ho : ops[i]? = some o) (v : Value) : (b.at a (.inRegion ops (i :: rest) :: k)).finish v = b.at (a.put o.dst v) (.inRegion ops rest :: k) := by
  rw [Frame.finish_at, ho]; rfl
theorem step_value {v : Value} (ho : ops[i]? = some o) (hw : Region.wanted o (yielded ops a.tmps) = true) (hr : (execOp a.eval o).run P w = .ok (.value v) w') :
    step P (lone (b.at a (.inRegion ops (i :: rest) :: k)) cs w) = .next (lone (b.at (a.put o.dst v) (.inRegion ops rest :: k)) cs w') := by
  refine step_lone_go ?_
  rw [stepG_op ho hw, ← fin_at ho]
  simp [stepG.apply, hr]
theorem step_skipped (ho : ops[i]? = some o) (hw : Region.wanted o (yielded ops a.tmps) = true) (hr : (execOp a.eval o).run P w = .ok .skip w') :
    step P (lone (b.at a (.inRegion ops (i :: rest) :: k)) cs w) = .next (lone (b.at (a.put o.dst undef) (.inRegion ops rest :: k)) cs w') := by
  refine step_lone_go ?_
  rw [stepG_op ho hw, ← fin_at ho]
  simp [stepG.apply, hr]
theorem step_unwanted (ho : ops[i]? = some o) (hw : Region.wanted o (yielded ops a.tmps) = false) :
    step P (lone (b.at a (.inRegion ops (i :: rest) :: k)) cs w) = .next (lone (b.at (a.put o.dst undef) (.inRegion ops rest :: k)) cs w) := by
  have := step_op_skip (P := P) (b := b) (a := a) (k := k) (cs := cs) (w := w) (ops := ops) (i := i) (rest := rest) (by simp [ho, hw])
  rw [ho] at this
  exact this
theorem step_enter {g : Nat} {args : Array Value} (ho : ops[i]? = some o) (hw : Region.wanted o (yielded ops a.tmps) = true) (hr : (execOp a.eval o).run P w = .ok (.enter g args) w') :
    step P (lone (b.at a (.inRegion ops (i :: rest) :: k)) cs w) = .next (lone (Frame.enter P g args .normal) (b.at a (.inRegion ops (i :: rest) :: k) :: cs) w') := by
  refine step_lone_go ?_
  rw [stepG_op ho hw]
  simp [stepG.apply, hr, Frame.at]
end
theorem enter_at {P : Program} {g n : Nat} {c : Code} {f : Func} (hf : P.funcs[g]? = some f) (hb : f.body = some c) (hn : f.ntmps = n) (args : Array Value) :
    Frame.enter P g args .normal = (bF g).at ⟨args ++ Array.replicate (n - args.size) undef, []⟩ [.code c] := by
  simp [Frame.enter, Frame.at, bF, hf, hb, hn]

/-! ### The machine that is meant -/
inductive IRel : SItem → Item → Prop
  | code (c : Code) : IRel (.code c) (.code c)
  | blk (id : Nat) : IRel (.blk id) (.inBlock id)
  | loop1 (c : Code) : IRel (.loop c) (.inLoop c)
  | loop2 (c : Code) : IRel (.loop c) (.code (.loop c))
  | scope (c : Code) : IRel (.scope c) (.inScope c)
inductive IRels : List SItem → List Item → Prop
  | nil : IRels [] []
  | cons {x : SItem} {y : Item} {r : List SItem} {s : List Item} (h : IRel x y) (t : IRels r s) : IRels (x :: r) (y :: s)
def DecOk (ids : Nat → Nat) (fr : Fr) (dec : List (Nat × Bool)) : Prop := ∀ t q, decB dec t = some q → ∃ sv, fr.get t = some sv ∧ sv.den ids = .bool q

/-- An order in which each operation stands behind what it waits for. -/
def LinOk (ops : List Oper) : List Nat → Prop
  | [] => True
  | i :: r => (∀ o, ops[i]? = some o → ∀ d ∈ depsOf o, d ∉ i :: r) ∧ LinOk ops r
/-- The object of an operation was made ahead. -/
def EarlyOk (P : Program) (ops : List Oper) (tmps : Array Value) (E : List (Nat × Obj)) (i : Nat) : Prop :=
  ∃ (o : Oper) (d b : Nat) (obj : Obj) (val : Nat → Value), ops[i]? = some o ∧ clsOf P o = 1 ∧ o.dst = some d ∧ (∀ w : World, (execOp (Act.eval ⟨tmps, []⟩) o).run P w = .ok (.value (val w.heap.size)) (w.alloc obj)) ∧ E = [(b, obj)] ∧ tmps[d]? = some (val b) ∧ o.guard = none
/-- What is left of a region whose order is drawn. l: what is to be carried out yet; r: what is to be worked out yet. -/
structure Dr (P : Program) (ops : List Oper) (r : List Nat) (ids : Nat → Nat) (fr : Fr) (l : List Nat) (tmps : Array Value) (E : List (Nat × Obj)) : Prop where
  nodup : l.Nodup
  lt : ∀ i ∈ l, i < ops.length
  lin : LinOk ops l
  down : ∀ j o, j ∉ l → ops[j]? = some o → ∀ d ∈ depsOf o, d ∉ l
  ord : orderB P ops r = true
  rnodup : r.Nodup
  rlt : ∀ i ∈ r, i < ops.length
  rdown : ∀ j o, j ∉ r → ops[j]? = some o → ∀ d ∈ depsOf o, d ∉ r
  ssa : ssaB P ops 0 ops = true
  back : backB 0 ops = true
  sel : selB ops = true
  pend : ∀ i o, i ∈ l → i ∉ r → ops[i]? = some o → clsOf P o = 0
  early : ∃ Es : List (Nat × List (Nat × Obj)), E = Es.flatMap (·.2) ∧ (Es.map (·.1)).Nodup ∧ (∀ i ∈ r, i ∉ l → i ∈ Es.map (·.1)) ∧ ∀ x ∈ Es, x.1 ∈ r ∧ x.1 ∉ l ∧ EarlyOk P ops tmps x.2 x.1
  on : ∀ t sv, fr.get t = some sv → (∀ i o, i ∈ l → i ∉ r → ops[i]? = some o → o.dst ≠ some t) → (∀ i o, i ∈ r → i ∉ l → ops[i]? = some o → o.dst ≠ some t) → tmps[t]? = some (sv.den ids)
/-- What a quiet operation yields that may not have come yet, in whatever memory that holds these objects. -/
def Quiet (P : Program) (ops : Array Oper) (H : Hp) (fr : Fr) (nt : Nat) (i : Nat) : Prop :=
  ∃ o d sv, ops.toList[i]? = some o ∧ o.dst = some d ∧ d < nt ∧ fr.get d = some sv ∧
    ((sv.den H.ids = undef ∧ ∀ a : Act, FrOn H.ids fr (· ∈ readsOf ops.toList o) a.tmps → Region.wanted o (yielded ops a.tmps) = false) ∨
     (∀ (a : Act) (w : World) (F : List (Nat × Obj)), FrOn H.ids fr (· ∈ readsOf ops.toList o) a.tmps → OwnL w (H.den ++ F) →
        Region.wanted o (yielded ops a.tmps) = true ∧ (execOp a.eval o).run P w = .ok (.value (sv.den H.ids)) w))

def FrameIs (P : Program) (H : Hp) (wait : Bool) (sf : SF) (tmps : Array Value) (todo : List Item) (E : List (Nat × Obj)) : Prop :=
  tmps.size = sf.nt ∧ FrOk H.length H.ids sf.fr ∧
  match sf.todo with
  | .dreg ops r dec :: k => ∃ l k', todo = .inRegion ops l :: k' ∧ IRels k k' ∧ DecOk H.ids sf.fr dec ∧ Dr P ops.toList r H.ids sf.fr l tmps E ∧
      (match wait with
       | true => ∃ x r' l', r = x :: r' ∧ l = x :: l' ∧ ∀ o, ops.toList[x]? = some o → clsOf P o ≠ 0 ∧ clsOf P o ≠ 1
       | false => ∀ i ∈ l, i ∉ r → Quiet P ops H sf.fr sf.nt i)
  | .reg ops i rest dec :: k => ∃ k', todo = .inRegion ops (List.range' i (ops.size - i)) :: k' ∧ rest = ops.toList.drop i ∧ IRels k k' ∧ DecOk H.ids sf.fr dec ∧ E = [] ∧ FrOn H.ids sf.fr (fun _ => True) tmps
  | td => IRels td todo ∧ E = [] ∧ FrOn H.ids sf.fr (fun _ => True) tmps
inductive StkIs (P : Program) (H : Hp) : List SF → List Frame → List (Nat × Obj) → Prop
  | nil : StkIs P H [] [] []
  | cons {sf : SF} {tmps : Array Value} {todo : List Item} {E1 E2 : List (Nat × Obj)} {r : List SF} {cs : List Frame} (h : FrameIs P H true sf tmps todo E1) (t : StkIs P H r cs E2) :
      StkIs P H (sf :: r) ((bF sf.fn).at ⟨tmps, []⟩ todo :: cs) (E1 ++ E2)
/-- What the machine is where the symbolic state is 'st'. -/
structure MIs (P : Program) (os : Os) (out : Array (Nat × ByteArray)) (cs : List Frame) (F : List (Nat × Obj)) (st : St) (m : Machine) : Prop where
  is : ∃ tmps todo E1 cs1 E2 w, m = lone ((bF st.top.fn).at ⟨tmps, []⟩ todo) (cs1 ++ cs) w ∧ FrameIs P st.H false st.top tmps todo E1 ∧ StkIs P st.H st.stk cs1 E2 ∧
    OwnL w (st.H.den ++ (E1 ++ (E2 ++ F))) ∧ st.H.ok ∧ w.os = os ∧ w.output = out

/-! ### More objects -/
structure Ext (H H' : Hp) : Prop where
  len : H.length ≤ H'.length
  ids : ∀ k, k < H.length → H'.ids k = H.ids k
theorem Ext.refl (H : Hp) : Ext H H := ⟨Nat.le_refl _, fun _ _ => rfl⟩
theorem Ext.sv {H H' : Hp} (h : Ext H H') {x : SV} (hx : x.ok H.length H.ids) : x.den H'.ids = x.den H.ids ∧ x.ok H'.length H'.ids := SV.same h.ids h.len hx
theorem Ext.frok {H H' : Hp} (h : Ext H H') {fr : Fr} (hf : FrOk H.length H.ids fr) : FrOk H'.length H'.ids fr := fun t sv ht => (h.sv (hf t sv ht)).2
theorem Ext.fron {H H' : Hp} (h : Ext H H') {fr : Fr} (hf : FrOk H.length H.ids fr) {X : Nat → Prop} {tmps : Array Value} : FrOn H.ids fr X tmps ↔ FrOn H'.ids fr X tmps := by
  constructor
  · intro ho t sv hx ht; rw [(h.sv (hf t sv ht)).1]; exact ho t sv hx ht
  · intro ho t sv hx ht; rw [← (h.sv (hf t sv ht)).1]; exact ho t sv hx ht
theorem Ext.decok {H H' : Hp} (h : Ext H H') {fr : Fr} (hf : FrOk H.length H.ids fr) {dec : List (Nat × Bool)} (hd : DecOk H.ids fr dec) : DecOk H'.ids fr dec := by
  intro t q ht
  obtain ⟨sv, h1, h2⟩ := hd t q ht
  exact ⟨sv, h1, by rw [(h.sv (hf t sv h1)).1, h2]⟩
theorem Ext.dr {H H' : Hp} (h : Ext H H') {P : Program} {ops : List Oper} {r : List Nat} {fr : Fr} (hf : FrOk H.length H.ids fr) {l : List Nat} {tmps : Array Value} {E : List (Nat × Obj)} (hd : Dr P ops r H.ids fr l tmps E) : Dr P ops r H'.ids fr l tmps E :=
  { hd with on := fun t sv ht h1 h2 => by rw [(h.sv (hf t sv ht)).1]; exact hd.on t sv ht h1 h2 }
theorem FrameIs.ext {P : Program} {H H' : Hp} (h : Ext H H') {sf : SF} {tmps : Array Value} {todo : List Item} {E : List (Nat × Obj)} (hf : FrameIs P H true sf tmps todo E) : FrameIs P H' true sf tmps todo E := by
  obtain ⟨h1, h2, h3⟩ := hf
  refine ⟨h1, h.frok h2, ?_⟩
  split at h3
  · obtain ⟨l, k', e1, e2, e3, e4, e5⟩ := h3
    exact ⟨l, k', e1, e2, h.decok h2 e3, h.dr h2 e4, e5⟩
  · obtain ⟨k', e1, e2, e3, e4, e5, e6⟩ := h3
    exact ⟨k', e1, e2, e3, h.decok h2 e4, e5, (h.fron h2).1 e6⟩
  · exact ⟨h3.1, h3.2.1, (h.fron h2).1 h3.2.2⟩
theorem StkIs.ext {P : Program} {H H' : Hp} (h : Ext H H') : ∀ {stk : List SF} {cs : List Frame} {E : List (Nat × Obj)}, StkIs P H stk cs E → StkIs P H' stk cs E
  | _, _, _, .nil => .nil
  | _, _, _, .cons hf t => .cons (hf.ext h) (t.ext h)
theorem ext_push {H : Hp} (e : Ent) : Ext H (H ++ [e]) := ⟨by simp, fun k hk => ids_append e hk⟩
theorem ext_same {H H' : Hp} (h1 : H'.ids = H.ids) (h2 : H'.length = H.length) : Ext H H' := ⟨by omega, fun k _ => by rw [h1]⟩
end Go.Sx

/- The symbolic executor 'Sx': steps in regions whose order is not drawn, and outside regions. -/
namespace Go.Sx
open Go

theorem get_put_self {tmps : Array Value} {d : Nat} {v : Value} (h : d < tmps.size) : (tmps.setIfInBounds d v)[d]? = some v := by
  rw [Array.getElem?_setIfInBounds_self, if_pos h]
/-- A slot gets a value, in the table and in the machine. -/
theorem put_sound {N nt : Nat} {ids : Nat → Nat} {fr : Fr} {X : Nat → Prop} {tmps : Array Value} (hs : tmps.size = nt) (hok : FrOk N ids fr) (hon : FrOn ids fr X tmps) {d : Option Nat} {v : SV} (hv : v.ok N ids) :
    FrOk N ids (putD fr nt d v) ∧ FrOn ids (putD fr nt d v) X ((⟨tmps, []⟩ : Act).put d (v.den ids)).tmps ∧ ((⟨tmps, []⟩ : Act).put d (v.den ids)).tmps.size = nt ∧ ((⟨tmps, []⟩ : Act).put d (v.den ids)) = ⟨((⟨tmps, []⟩ : Act).put d (v.den ids)).tmps, []⟩ := by
  cases d with
  | none => exact ⟨hok, hon, hs, rfl⟩
  | some d =>
    refine ⟨?_, ?_, by simp [Act.put, hs], rfl⟩
    · intro t sv ht
      simp only [putD] at ht
      split at ht
      · rcases Tr.get_put _ _ _ _ _ ht with ⟨_, rfl⟩ | ⟨_, h⟩
        · exact hv
        · exact hok t sv h
      · simp [Tr.get] at ht
    · intro t sv hx ht
      simp only [putD] at ht
      split at ht
      · rename_i hle
        have hle := Nat.le_of_ble_eq_true hle
        rcases Tr.get_put _ _ _ _ _ ht with ⟨rfl, rfl⟩ | ⟨hne, h⟩
        · simp only [Act.put]; exact get_put_self (by omega)
        · simp only [Act.put]; rw [Array.getElem?_setIfInBounds_ne (fun e => hne e.symm)]; exact hon t sv hx h
      · simp [Tr.get] at ht
theorem undef_den (ids : Nat → Nat) : SV.undef.den ids = undef := by simp [SV.den, undef]
theorem drop_cons {α : Type} {l : List α} {i : Nat} {x : α} {r : List α} (h : x :: r = l.drop i) : l[i]? = some x ∧ r = l.drop (i + 1) ∧ i < l.length := by
  have h1 : l[i]? = some x := by
    have := congrArg (·[0]?) h
    simpa using this.symm
  refine ⟨h1, ?_, (List.getElem?_eq_some_iff.1 h1).1⟩
  have := congrArg List.tail h
  simpa using this
theorem range_cons {i n : Nat} (h : i < n) : List.range' i (n - i) = i :: List.range' (i + 1) (n - (i + 1)) := by
  rw [show n - i = (n - (i + 1)) + 1 by omega, List.range'_succ]
theorem decB_dec {ids : Nat → Nat} {fr : Fr} {dec : List (Nat × Bool)} (h : DecOk ids fr dec) {t : Nat} {q : Bool} {sv : SV} (hs : fr.get t = some sv) (hd : sv.den ids = .bool q) : DecOk ids fr ((t, q) :: dec) := by
  intro t' q' h'
  simp only [decB] at h'
  split at h'
  · rename_i hb
    have := Nat.eq_of_beq_eq_true hb
    subst this
    simp only [Option.some.injEq] at h'; subst h'
    exact ⟨sv, hs, hd⟩
  · exact h t' q' h'
theorem decB_del {t : Nat} : ∀ {dec : List (Nat × Bool)} {t' : Nat} {q : Bool}, decB (decDel t dec) t' = some q → t' ≠ t ∧ decB dec t' = some q
  | [], _, _, h => by simp [decDel, decB] at h
  | (u, q0) :: r, t', q, h => by
    simp only [decDel] at h
    split at h
    · rename_i hb
      have := Nat.eq_of_beq_eq_true hb
      subst this
      obtain ⟨h1, h2⟩ := decB_del h
      refine ⟨h1, ?_⟩
      simp only [decB]
      split
      · rename_i hb'; exact absurd (Nat.eq_of_beq_eq_true hb') (fun e => h1 e.symm)
      · exact h2
    · rename_i hb
      simp only [decB] at h ⊢
      split at h
      · rename_i hb'
        have := Nat.eq_of_beq_eq_true hb'
        subst this
        exact ⟨fun e => by subst e; simp at hb, h⟩
      · obtain ⟨h1, h2⟩ := decB_del h
        exact ⟨h1, h2⟩
theorem decok_put {nt : Nat} {ids : Nat → Nat} {fr : Fr} {dec : List (Nat × Bool)} (h : DecOk ids fr dec) {d : Option Nat} {v : SV} : DecOk ids (putD fr nt d v) (decPut dec nt d) := by
  cases d with
  | none => exact h
  | some d =>
    intro t q hq
    simp only [decPut] at hq
    split at hq
    · rename_i hb
      simp only [Bool.and_eq_true] at hb
      obtain ⟨h1, h2⟩ := decB_del hq
      obtain ⟨sv, e1, e2⟩ := h t q h2
      refine ⟨sv, ?_, e2⟩
      simp only [putD, hb.1, Tr.put, hb.2]
      have := Nat.le_of_ble_eq_true hb.2
      rw [Tr.set_get 13 fr d v (by omega), if_neg h1]; exact e1
    · simp [decB] at hq
end Go.Sx

/- The symbolic executor 'Sx': a region whose order is not drawn. -/
namespace Go.Sx
open Go

theorem guardQ_sound {ops : Array Oper} {ids : Nat → Nat} {fr : Fr} {dec : List (Nat × Bool)} {o : Oper} {g : Bool} (h : guardQ ops.toList fr dec o = some g) {X : Nat → Prop} {tmps : Array Value} (hon : FrOn ids fr X tmps) (hx : ∀ t, t ∈ readsOf ops.toList o → X t) (hd : DecOk ids fr dec) :
    Region.wanted o (yielded ops tmps) = g := by
  unfold guardQ at h
  unfold Region.wanted
  split at h
  · rename_i hg; rw [hg]; simpa using h
  · rename_i p hg
    obtain ⟨gj, gw⟩ := p
    rw [hg]
    split at h
    · simp at h
    · rename_i t want ht
      have hX : X t := hx t (by unfold readsOf; rw [ht]; simp)
      unfold guardT at ht
      rw [hg] at ht
      simp only at ht
      split at ht
      · rename_i q hq
        split at ht
        · rename_i t' hdst
          simp only [Option.some.injEq, Prod.mk.injEq] at ht
          obtain ⟨rfl, rfl⟩ := ht
          rw [nthO_eq, Array.getElem?_toList] at hq
          have key : ∀ x : Bool, tmps[t']? = some (.bool x) → yielded ops tmps gj = some x := by
            intro x hx
            unfold yielded
            rw [hq]
            simp [hdst, hx]
          simp only
          split at h
          · rename_i x hdx
            simp only [Option.some.injEq] at h; subst h
            obtain ⟨sv, e1, e2⟩ := hd _ _ hdx
            have := hon t' sv hX e1
            rw [e2] at this
            rw [key x this]
            cases x <;> cases gw <;> rfl
          · split at h
            · rename_i x hgx
              simp only [Option.some.injEq] at h; subst h
              have := hon t' _ hX hgx
              simp only [SV.den] at this
              rw [key x this]
              cases x <;> cases gw <;> rfl
            · rename_i hgx
              simp only [Option.some.injEq] at h; subst h
              have := hon t' _ hX hgx
              have hy : yielded ops tmps gj = none := by
                unfold yielded
                rw [hq]
                simp [hdst, this, SV.den]
              rw [hy]
              cases gw <;> rfl
            · simp at h
        · simp at ht
      · simp at ht
theorem decide1_sound {ops : List Oper} {fr : Fr} {o : Oper} {hs hs' : List Hint} {t : Nat} {y : Bool} {vc : Prop} (h : decide1 ops fr o hs = some (t, y, hs', vc)) (hvc : vc) {ids : Nat → Nat} {dec : List (Nat × Bool)} (hd : DecOk ids fr dec) : DecOk ids fr ((t, y) :: dec) := by
  unfold decide1 at h
  split at h
  · simp at h
  · split at h
    · rename_i x hx
      split at h
      · simp only [Option.some.injEq, Prod.mk.injEq] at h
        obtain ⟨rfl, rfl, rfl, rfl⟩ := h
        exact decB_dec hd hx (by simp only [SV.den]; rw [hvc])
      · simp at h
    · simp at h
/-- What a step comes to. -/
def Goes (P : Program) (os : Os) (out : Array (Nat × ByteArray)) (cs : List Frame) (F : List (Nat × Obj)) (m : Machine) (st : St) : Prop := ∃ m', Steps P m m' ∧ MIs P os out cs F st m'
def eqsOk (eqs : List (SV × SV)) : Prop := ∀ p ∈ eqs, p.1 = p.2

theorem mkFr_get : ∀ {l : List SV} {i : Nat} {fr : Fr} {t : Nat} {sv : SV}, (mkFr i l fr).get t = some sv → (∃ j, l[j]? = some sv ∧ t = i + j) ∨ fr.get t = some sv
  | [], i, fr, t, sv, h => .inr h
  | x :: r, i, fr, t, sv, h => by
    rcases mkFr_get (l := r) h with ⟨j, h1, h2⟩ | h
    · exact .inl ⟨j + 1, by simpa using h1, by omega⟩
    · rcases Tr.get_put _ _ _ _ _ h with ⟨rfl, rfl⟩ | ⟨_, h⟩
      · exact .inl ⟨0, by simp, rfl⟩
      · exact .inr h
/-- A call is entered. -/
theorem call_goes {C : Cfg} {os : Os} {out : Array (Nat × ByteArray)} {cs : List Frame} {F : List (Nat × Obj)} {H : Hp} {top : SF} {stk : List SF} {hs hs' : List Hint} {g : Nat} {args : List SV} {st' : St} {vc : Prop} {eqs : List (SV × SV)}
    (h : stepCall C H top stk hs g args = .go st' hs' vc eqs) {tmps : Array Value} {x : Nat} {l : List Nat} {ops : Array Oper} {k' : List Item} {o : Oper} {E1 E2 : List (Nat × Obj)} {cs1 : List Frame} {w : World}
    (hf : FrameIs C.P H true top tmps (.inRegion ops (x :: l) :: k') E1) (hst : StkIs C.P H stk cs1 E2) (hw : OwnL w (H.den ++ (E1 ++ (E2 ++ F)))) (hok : H.ok) (hos : w.os = os) (hout : w.output = out)
    (ho : ops[x]? = some o) (hwant : Region.wanted o (yielded ops tmps) = true) (hrun : (execOp (Act.eval ⟨tmps, []⟩) o).run C.P w = (callFunc g (SV.dens H.ids args).toArray).run C.P w) (hargs : SV.oks H.length H.ids args) :
    Goes C.P os out cs F (lone ((bF top.fn).at ⟨tmps, []⟩ (.inRegion ops (x :: l) :: k')) (cs1 ++ cs) w) st' := by
  unfold stepCall at h
  split at h
  · simp at h
  · split at h
    · rename_i c n hc
      split at h
      · rename_i hle
        have hle := Nat.le_of_ble_eq_true hle
        simp only [SR.go.injEq] at h
        obtain ⟨rfl, rfl, rfl, rfl⟩ := h
        obtain ⟨f, hf1, hf2, hf3, hf4⟩ := enterQ_sound hc
        rw [hf4] at hrun
        refine ⟨_, .one (step_enter ho hwant hrun), ⟨(SV.dens H.ids args).toArray ++ Array.replicate (n - (SV.dens H.ids args).toArray.size) undef, [.code c], [], (bF top.fn).at ⟨tmps, []⟩ (.inRegion ops (x :: l) :: k') :: cs1, E1 ++ E2, w, ?_, ?_, ?_, ?_, hok, hos, hout⟩⟩
        · rw [enter_at hf1 hf2 hf3]; rfl
        · refine ⟨?_, ?_, ?_⟩
          · simp [dens_eq]; omega
          · intro t sv ht
            rcases mkFr_get ht with ⟨j, h1, h2⟩ | h
            · exact (oks_iff _ _ _).1 hargs sv (List.mem_of_getElem? h1)
            · simp [Tr.get] at h
          · refine ⟨.cons (.code c) .nil, rfl, fun t sv _ ht => ?_⟩
            rcases mkFr_get ht with ⟨j, h1, h2⟩ | h
            · have hj : j < args.length := (List.getElem?_eq_some_iff.1 h1).1
              rw [Nat.zero_add] at h2; subst h2
              rw [Array.getElem?_append_left (by simp [dens_eq]; exact hj)]
              simp [dens_eq, h1]
            · simp [Tr.get] at h
        · exact .cons hf hst
        · simpa [List.append_assoc] using hw
      · simp at h
    · simp at h

theorem reg_state {P : Program} {os : Os} {out : Array (Nat × ByteArray)} {cs : List Frame} {F : List (Nat × Obj)} {m : Machine} {H : Hp} {fn nt : Nat} {fr : Fr} {ops : Array Oper} {i : Nat} {o : Oper} {rest : List Oper} {dec : List (Nat × Bool)} {k : List SItem} {stk : List SF}
    (h : MIs P os out cs F ⟨H, ⟨fn, nt, fr, .reg ops i (o :: rest) dec :: k⟩, stk⟩ m) :
    ∃ tmps k' cs1 E2 w, m = lone ((bF fn).at ⟨tmps, []⟩ (.inRegion ops (i :: List.range' (i + 1) (ops.size - (i + 1))) :: k')) (cs1 ++ cs) w ∧ tmps.size = nt ∧ FrOk H.length H.ids fr ∧ ops[i]? = some o ∧ rest = ops.toList.drop (i + 1) ∧ IRels k k' ∧ DecOk H.ids fr dec ∧
      FrOn H.ids fr (fun _ => True) tmps ∧ StkIs P H stk cs1 E2 ∧ OwnL w (H.den ++ ([] ++ (E2 ++ F))) ∧ H.ok ∧ w.os = os ∧ w.output = out := by
  obtain ⟨tmps, todo, E1, cs1, E2, w, rfl, ⟨h1, h2, h3⟩, hst, hw, hok, hos, hout⟩ := h.is
  obtain ⟨k', rfl, hr, hk, hd, rfl, hon⟩ := h3
  obtain ⟨hr1, hr2, hr3⟩ := drop_cons hr
  rw [Array.getElem?_toList] at hr1
  have hlt : i < ops.size := by simpa using hr3
  rw [range_cons hlt]
  exact ⟨tmps, k', cs1, E2, w, rfl, h1, h2, hr1, hr2, hk, hd, hon, hst, hw, hok, hos, hout⟩
theorem regW_state {P : Program} {os : Os} {out : Array (Nat × ByteArray)} {cs : List Frame} {F : List (Nat × Obj)} {H : Hp} {fn nt : Nat} {fr : Fr} {ops : Array Oper} {i : Nat} {rest : List Oper} {dec : List (Nat × Bool)} {k : List SItem} {stk : List SF}
    {tmps : Array Value} {k' : List Item} {cs1 : List Frame} {E2 : List (Nat × Obj)} {w : World} (h1 : tmps.size = nt) (h2 : FrOk H.length H.ids fr) (h3 : rest = ops.toList.drop i) (h4 : IRels k k') (h5 : DecOk H.ids fr dec) (h6 : FrOn H.ids fr (fun _ => True) tmps)
    (h7 : StkIs P H stk cs1 E2) (h8 : OwnL w (H.den ++ ([] ++ (E2 ++ F)))) (h9 : H.ok) (h10 : w.os = os) (h11 : w.output = out) :
    MIs P os out cs F ⟨H, ⟨fn, nt, fr, .reg ops i rest dec :: k⟩, stk⟩ (lone ((bF fn).at ⟨tmps, []⟩ (.inRegion ops (List.range' i (ops.size - i)) :: k')) (cs1 ++ cs) w) :=
  ⟨⟨tmps, _, [], cs1, E2, w, rfl, ⟨h1, h2, k', rfl, h3, h4, h5, rfl, h6⟩, h7, h8, h9, h10, h11⟩⟩

/-- An operation that yields a value and leaves the objects alone, or changes them, has come. -/
theorem reg_done {P : Program} {os : Os} {out : Array (Nat × ByteArray)} {cs : List Frame} {F : List (Nat × Obj)} {H H' : Hp} {fn nt : Nat} {fr : Fr} {ops : Array Oper} {i : Nat} {o : Oper} {rest : List Oper} {dec : List (Nat × Bool)} {k : List SItem} {stk : List SF}
    {tmps : Array Value} {k' : List Item} {cs1 : List Frame} {E2 : List (Nat × Obj)} {w' : World} (h1 : tmps.size = nt) (h2 : FrOk H.length H.ids fr) (h3 : rest = ops.toList.drop (i + 1)) (h4 : IRels k k') (h5 : DecOk H.ids fr dec) (h6 : FrOn H.ids fr (fun _ => True) tmps)
    (h7 : StkIs P H stk cs1 E2) (he : Ext H H') (h8 : OwnL w' (H'.den ++ ([] ++ (E2 ++ F)))) (h9 : H'.ok) (h10 : w'.os = os) (h11 : w'.output = out) {v : SV} (hv : v.ok H'.length H'.ids) {val : Value} (hval : v.den H'.ids = val) :
    MIs P os out cs F ⟨H', ⟨fn, nt, putD fr nt o.dst v, .reg ops (i + 1) rest (decPut dec nt o.dst) :: k⟩, stk⟩
      (lone ((bF fn).at ((⟨tmps, []⟩ : Act).put o.dst val) (.inRegion ops (List.range' (i + 1) (ops.size - (i + 1))) :: k')) (cs1 ++ cs) w') := by
  subst hval
  obtain ⟨p1, p2, p3, p4⟩ := put_sound (nt := nt) h1 (he.frok h2) ((he.fron h2).1 h6) (d := o.dst) hv
  rw [p4]
  exact regW_state p3 p1 h3 h4 (decok_put (he.decok h2 h5)) p2 (h7.ext he) h8 h9 h10 h11
end Go.Sx

/- The symbolic executor 'Sx': steps in a region whose order is not drawn; returns; code. -/
namespace Go.Sx
open Go

theorem drop_some {α : Type} {l : List α} {i : Nat} {x : α} (h : l[i]? = some x) : x :: l.drop (i + 1) = l.drop i := by
  obtain ⟨h1, h2⟩ := List.getElem?_eq_some_iff.1 h
  rw [List.drop_eq_getElem_cons h1, h2]
def mkEnv (C : Cfg) (H : Hp) (fr : Fr) (tmps : Array Value) (X : Nat → Prop) : Env := ⟨C.globs, H, fr, ⟨tmps, []⟩, X⟩
theorem mkEnv_ok {C : Cfg} {H : Hp} {fr : Fr} {tmps : Array Value} {X : Nat → Prop} (h1 : H.ok) (h2 : FrOk H.length H.ids fr) (h3 : FrOn H.ids fr X tmps) : (mkEnv C H fr tmps X).Ok := ⟨h1, h2, h3⟩

theorem stepReg_go {C : Cfg} {os : Os} {out : Array (Nat × ByteArray)} {cs : List Frame} {F : List (Nat × Obj)} {m : Machine} {H : Hp} {fn nt : Nat} {fr : Fr} {ops : Array Oper} {i : Nat} {o : Oper} {rest : List Oper} {dec : List (Nat × Bool)} {k : List SItem} {stk : List SF} {hs hs' : List Hint} {st' : St} {vc : Prop} {eqs : List (SV × SV)}
    (h : stepReg C H fn nt fr ops i o rest dec k stk hs = .go st' hs' vc eqs) (hvc : vc) (hm : MIs C.P os out cs F ⟨H, ⟨fn, nt, fr, .reg ops i (o :: rest) dec :: k⟩, stk⟩ m) : Goes C.P os out cs F m st' := by
  obtain ⟨tmps, k', cs1, E2, w, rfl, h1, h2, ho, hr, hk, hd, hon, hst, hw, hok, hos, hout⟩ := reg_state hm
  have he := mkEnv_ok (C := C) (X := fun _ => True) hok h2 hon
  have hX : ∀ l, inX (fun _ => True) l := fun l t _ => trivial
  unfold stepReg at h
  split at h
  · split at h
    · rename_i t y hs1 vc1 hdc
      simp only [SR.go.injEq] at h
      obtain ⟨rfl, rfl, rfl, rfl⟩ := h
      refine ⟨_, Steps.refl _ _, ?_⟩
      rw [← range_cons (show i < ops.size from (Array.getElem?_eq_some_iff.1 ho).1)]
      exact regW_state h1 h2 (by rw [hr]; exact drop_some (by rw [Array.getElem?_toList]; exact ho)) hk (decide1_sound hdc hvc hd) hon hst hw hok hos hout
    · simp at h
  · rename_i hg
    simp only [SR.go.injEq] at h
    obtain ⟨rfl, rfl, rfl, rfl⟩ := h
    have hwant := guardQ_sound hg hon (fun _ _ => trivial) hd
    exact ⟨_, .one (step_unwanted ho hwant), reg_done h1 h2 hr hk hd hon hst (Ext.refl H) hw hok hos hout (v := .undef) (by simp [SV.ok]) (undef_den _)⟩
  · rename_i hg
    have hwant := guardQ_sound hg hon (fun _ _ => trivial) hd
    split at h
    rename_i hm' hs1 _
    split at h
    · rename_i v vc1 hq
      simp only [SR.go.injEq] at h
      obtain ⟨rfl, rfl, rfl, rfl⟩ := h
      have := qeval_sound he hw hq hvc (hX _) hd
      exact ⟨_, .one (step_value ho hwant this.1), reg_done h1 h2 hr hk hd hon hst (Ext.refl H) hw hok hos hout this.2 rfl⟩
    · split at h
      · simp at h
      · split at h
        · rename_i H' vc1 hse
          simp only [SR.go.injEq] at h
          obtain ⟨rfl, rfl, rfl, rfl⟩ := h
          obtain ⟨w', r1, r2, r3, r4, r5, r6, r7⟩ := seval_sound he hw hse hvc (hX _)
          exact ⟨_, .one (step_skipped ho hwant r1), reg_done h1 h2 hr hk hd hon hst (ext_same r4 r5) r2 r3 (r6.trans hos) (r7.trans hout) (v := .undef) (by simp [SV.ok]) (undef_den _)⟩
        · split at h
          · rename_i g args hce
            have hc := ceval_sound (P := C.P) he hce (hX _)
            refine call_goes (E1 := []) h ?_ hst hw hok hos hout ho hwant (hc.1 w) hc.2
            refine ⟨h1, h2, k', by rw [range_cons (show i < ops.size from (Array.getElem?_eq_some_iff.1 ho).1)], ?_, hk, hd, rfl, hon⟩
            rw [hr]; exact drop_some (by rw [Array.getElem?_toList]; exact ho)
          · simp at h

theorem stepReg_new {C : Cfg} {os : Os} {out : Array (Nat × ByteArray)} {cs : List Frame} {F : List (Nat × Obj)} {m : Machine} {H : Hp} {fn nt : Nat} {fr : Fr} {ops : Array Oper} {i : Nat} {o : Oper} {rest : List Oper} {dec : List (Nat × Bool)} {k : List SItem} {stk : List SF} {hs : List Hint} {f : Nat → St}
    (h : stepReg C H fn nt fr ops i o rest dec k stk hs = .new f) (hm : MIs C.P os out cs F ⟨H, ⟨fn, nt, fr, .reg ops i (o :: rest) dec :: k⟩, stk⟩ m) :
    ∃ b, Goes C.P os out cs F m (f b) ∧ ∀ b', (f b').H.length = H.length + 1 ∧ ∀ j, j < H.length → nthO (f b').H j = nthO H j := by
  obtain ⟨tmps, k', cs1, E2, w, rfl, h1, h2, ho, hr, hk, hd, hon, hst, hw, hok, hos, hout⟩ := reg_state hm
  have he := mkEnv_ok (C := C) (X := fun _ => True) hok h2 hon
  have hX : ∀ l, inX (fun _ => True) l := fun l t _ => trivial
  unfold stepReg at h
  split at h
  · split at h <;> simp at h
  · simp at h
  · rename_i hg
    have hwant := guardQ_sound hg hon (fun _ _ => trivial) hd
    split at h
    split at h
    · simp at h
    · split at h
      · rename_i so mk hae
        simp only [SR.new.injEq] at h
        subst h
        obtain ⟨obj, hmade⟩ := aeval_sound he hae (hX _)
        refine ⟨w.heap.size, ⟨_, .one (step_value ho hwant (hmade.run w H.length (Hp.ids (H ++ [(w.heap.size, some so)])) (ids_new _ _))), ?_⟩, fun b' => ⟨by simp, fun j hj => by rw [nthO_append, if_pos hj]⟩⟩
        have hso := SO.same (fun j hj => ids_append (w.heap.size, some so) hj) (Nat.le_succ H.length) w.heap.size hmade.ok
        refine reg_done (w' := w.alloc obj) h1 h2 hr hk hd hon hst (ext_push _) ?_ (ok_push hok _ _ hso.2) hos hout (by simpa using hmade.vok H.length w.heap.size _ (ids_new _ _)) rfl
        rw [den_push hok, hso.1]
        have e0 := hmade.den w.heap.size
        simp only [mkEnv] at e0
        rw [e0]
        have := (OwnL.alloc hw obj).perm (M := (H.den ++ [(w.heap.size, obj)]) ++ ([] ++ (E2 ++ F))) (by simpa using (List.perm_middle (a := (w.heap.size, obj)) (l₁ := H.den) (l₂ := E2 ++ F)).symm)
        exact this
      · split at h
        · simp at h
        · split at h
          · unfold stepCall at h
            split at h
            · simp at h
            · split at h
              · split at h <;> simp at h
              · simp at h
          · simp at h
end Go.Sx

/- The symbolic executor 'Sx': returns. -/
namespace Go.Sx
open Go

def resOf (tmps : Array Value) : ResultVar → Sem Value
  | .tmp t => pure (tmps.getD t undef)
  | .cell a t => do loadVar t (← asAddr (tmps.getD a undef))
theorem resV_sound {P : Program} {H : Hp} {fr : Fr} {tmps : Array Value} (hok : H.ok) (h2 : FrOk H.length H.ids fr) (hon : FrOn H.ids fr (fun _ => True) tmps) {w : World} {F : List (Nat × Obj)} (hw : OwnL w (H.den ++ F)) :
    ∀ {l : List ResultVar} {vs : List SV} {vc : Prop}, resV P H fr l = some (vs, vc) → vc → (l.mapM (resOf tmps)).run P w = .ok (SV.dens H.ids vs) w ∧ SV.oks H.length H.ids vs
  | [], vs, vc, h, _ => by
    simp only [resV, Option.some.injEq, Prod.mk.injEq] at h
    obtain ⟨rfl, rfl⟩ := h
    rw [List.mapM_nil]; exact ⟨rfl, by simp [SV.oks]⟩
  | .tmp t :: r, vs, vc, h, hvc => by
    simp only [resV] at h
    split at h
    · rename_i v hv
      split at h
      · rename_i l vc1 hl
        simp only [Option.some.injEq, Prod.mk.injEq] at h
        obtain ⟨rfl, rfl⟩ := h
        have ih := resV_sound hok h2 hon hw hl hvc
        have e1 : tmps.getD t undef = v.den H.ids := by rw [Array.getD_eq_getD_getElem?, hon t v trivial hv]; rfl
        refine ⟨?_, h2 t v hv, ih.2⟩
        simp only [List.mapM_cons, resOf, Sem.run_bind, Sem.run_pure, Result.andThen_ok, ih.1, SV.dens, e1]
      · simp at h
    · simp at h
  | .cell a t :: r, vs, vc, h, hvc => by
    simp only [resV] at h
    split at h
    · rename_i x hx
      split at h
      · rename_i v vc2 hv
        split at h
        · rename_i l vc1 hl
          simp only [Option.some.injEq, Prod.mk.injEq] at h
          obtain ⟨rfl, rfl⟩ := h
          have ih := resV_sound hok h2 hon hw hl hvc.2
          have e1 : tmps.getD a undef = x.den H.ids := by rw [Array.getD_eq_getD_getElem?, hon a x trivial hx]; rfl
          obtain ⟨⟨ad, e2, e3⟩, e4⟩ := loadQ_sound hv hvc.1 hok hw
          refine ⟨?_, e4, ih.2⟩
          simp only [List.mapM_cons, resOf, e1, e2, asAddr, Sem.run_bind, Sem.run_pure, Result.andThen_ok, e3, ih.1, SV.dens]
        · simp at h
      · simp at h
    · simp at h
theorem retV_sound {P : Program} {H : Hp} {fn : Nat} {fr : Fr} {tmps : Array Value} (hok : H.ok) (h2 : FrOk H.length H.ids fr) (hon : FrOn H.ids fr (fun _ => True) tmps) {w : World} {F : List (Nat × Obj)} (hw : OwnL w (H.den ++ F))
    {v : SV} {vc : Prop} (h : retV P H fn fr = some (v, vc)) (hvc : vc) : ∃ f, P.funcs[fn]? = some f ∧ (results f tmps).run P w = .ok (v.den H.ids) w ∧ v.ok H.length H.ids := by
  unfold retV at h
  split at h
  · rename_i f hf
    refine ⟨f, hf, ?_⟩
    have hres : ∀ {vs : List SV}, (f.results.toList.mapM (resOf tmps)).run P w = .ok (SV.dens H.ids vs) w → (results f tmps).run P w = .ok (if h : (SV.dens H.ids vs).toArray.size = 1 then (SV.dens H.ids vs).toArray[0] else .tuple (SV.dens H.ids vs).toArray) w := by
      intro vs hvs
      have e0 : results f tmps = (do let vs ← f.results.mapM (resOf tmps); pure (if h : vs.size = 1 then vs[0] else .tuple vs)) := by
        unfold results
        congr 1
      rw [e0, Array.mapM_eq_mapM_toList]
      simp only [Sem.run_bind, Sem.run_map, hvs, Result.andThen_ok, Sem.run_pure]
    split at h
    · rename_i l vc1 hl
      split at h
      · rename_i x
        simp only [Option.some.injEq, Prod.mk.injEq] at h
        obtain ⟨rfl, rfl⟩ := h
        have := resV_sound hok h2 hon hw hl hvc
        refine ⟨?_, this.2.1⟩
        rw [hres this.1]
        simp [SV.dens]
      · rename_i hne
        simp only [Option.some.injEq, Prod.mk.injEq] at h
        obtain ⟨rfl, rfl⟩ := h
        have := resV_sound hok h2 hon hw hl hvc
        refine ⟨?_, this.2⟩
        rw [hres this.1]
        have hs : ¬ (SV.dens H.ids l).toArray.size = 1 := by
          intro hs
          match l, hne with
          | [], _ => simp [SV.dens] at hs
          | [x], hne => exact hne x rfl
          | x :: y :: r, _ => simp [SV.dens] at hs
        rw [dif_neg hs]
        simp only [SV.den]
    · simp at h
  · simp at h
end Go.Sx

/- The symbolic executor 'Sx': regions whose order is drawn: the checks. -/
namespace Go.Sx
open Go

theorem testBit_maskOf : ∀ (l : List Nat) (i : Nat), (maskOf l).testBit i = true ↔ i ∈ l
  | [], i => by simp [maskOf]
  | j :: r, i => by
    have e : maskOf (j :: r) = (1 <<< j) ||| maskOf r := rfl
    rw [e, Nat.testBit_or, Bool.or_eq_true, testBit_maskOf r i, Nat.testBit_shiftLeft]
    simp only [List.mem_cons, Bool.and_eq_true, decide_eq_true_eq]
    constructor
    · rintro (⟨h1, h2⟩ | h)
      · left
        have : (Nat.testBit 1 (i - j)) = decide (i - j = 0) := by
          rw [show (1 : Nat) = 2 ^ 0 from rfl, Nat.testBit_two_pow]
          simp [eq_comm]
        rw [this] at h2
        simp at h2
        omega
      · exact .inr h
    · rintro (rfl | h)
      · left; exact ⟨Nat.le_refl _, by simp⟩
      · exact .inr h
theorem land_zero {a b : List Nat} : Nat.beq (Nat.land (maskOf a) (maskOf b)) 0 = true ↔ ∀ d ∈ a, d ∉ b := by
  constructor
  · intro h d hd hb
    have h := Nat.eq_of_beq_eq_true h
    have : ((maskOf a) &&& (maskOf b)).testBit d = true := by
      rw [Nat.testBit_and, (testBit_maskOf a d).2 hd, (testBit_maskOf b d).2 hb]; rfl
    have h' : (maskOf a) &&& (maskOf b) = 0 := h
    rw [h'] at this
    simp at this
  · intro h
    have : (maskOf a) &&& (maskOf b) = 0 := by
      apply Nat.eq_of_testBit_eq
      intro i
      rw [Nat.testBit_and, Nat.zero_testBit]
      cases ha : (maskOf a).testBit i with
      | false => rfl
      | true =>
        cases hb : (maskOf b).testBit i with
        | false => rfl
        | true => exact absurd ((testBit_maskOf b i).1 hb) (h i ((testBit_maskOf a i).1 ha))
    show Nat.beq ((maskOf a) &&& (maskOf b)) 0 = true
    rw [this]; rfl
theorem readyB_iff {o : Oper} {r : List Nat} : readyB o r = true ↔ ∀ d ∈ depsOf o, d ∉ r := land_zero
theorem shift_mask (i : Nat) : Nat.shiftLeft 1 i = maskOf [i] := by
  show 1 <<< i = (1 <<< i) ||| 0
  simp
theorem hasB_iff {l : List Nat} {i : Nat} : hasB l i = true ↔ i ∈ l := by
  unfold hasB
  rw [shift_mask]
  constructor
  · intro h
    refine Classical.byContradiction fun hn => ?_
    have := (land_zero (a := l) (b := [i])).2 (fun d hd hb => hn (by simp at hb; subst hb; exact hd))
    rw [this] at h
    simp at h
  · intro h
    cases hb : Nat.beq ((maskOf l).land (maskOf [i])) 0 with
    | false => rfl
    | true => exact absurd (by simp) (land_zero.1 hb i h)
theorem bit_or {a b j : Nat} : (Nat.lor a b).testBit j = true ↔ a.testBit j = true ∨ b.testBit j = true := by
  show (a ||| b).testBit j = true ↔ _
  rw [Nat.testBit_or, Bool.or_eq_true]
theorem land_bit {a m : Nat} (h : ¬ Nat.beq (Nat.land a m) 0 = true) : ∃ d, a.testBit d = true ∧ m.testBit d = true := by
  refine Classical.byContradiction fun hn => h ?_
  have : a &&& m = 0 := by
    apply Nat.eq_of_testBit_eq
    intro i
    rw [Nat.testBit_and, Nat.zero_testBit]
    cases ha : a.testBit i with
    | false => rfl
    | true =>
      cases hb : m.testBit i with
      | false => rfl
      | true => exact absurd ⟨i, ha, hb⟩ hn
  show Nat.beq (a &&& m) 0 = true
  rw [this]; rfl
/-- What is in the mask hasn't come: so what waits for it hasn't, either. -/
theorem waits_in {ops : List Oper} {l : List Nat} (down : ∀ j o, j ∉ l → ops[j]? = some o → ∀ d ∈ depsOf o, d ∉ l) : ∀ {r : List Nat} {m : Nat}, (∀ i, m.testBit i = true → i ∈ l) → ∀ j, (waitsB ops m r).testBit j = true → j ∈ l
  | [], m, hm, j, h => hm j h
  | q :: r, m, hm, j, h => by
    simp only [waitsB] at h
    split at h
    · rename_i o ho
      rw [nthO_eq] at ho
      split at h
      · exact waits_in down hm j h
      · rename_i hne
        refine waits_in down (r := r) (fun i hi => ?_) j h
        rw [bit_or] at hi
        rcases hi with hi | hi
        · rw [shift_mask] at hi
          have hi := (testBit_maskOf [q] i).1 hi
          simp only [List.mem_singleton] at hi
          subst hi
          obtain ⟨d, h1, h2⟩ := land_bit (by rw [hne]; simp)
          have h1 := (testBit_maskOf _ d).1 h1
          exact Classical.byContradiction fun hq => down i o hq ho d h1 (hm d h2)
        · exact hm i hi
    · exact waits_in down hm j h
theorem waits_mono {ops : List Oper} : ∀ {r : List Nat} {m : Nat} {j : Nat}, m.testBit j = true → (waitsB ops m r).testBit j = true
  | [], m, j, h => h
  | q :: r, m, j, h => by
    simp only [waitsB]
    split
    · split
      · exact waits_mono h
      · exact waits_mono (bit_or.2 (.inr h))
    · exact waits_mono h
theorem waits_dep {ops : List Oper} : ∀ {r : List Nat} {m : Nat} {j : Nat}, (waitsB ops m r).testBit j = true → m.testBit j = true ∨ ∃ o d, ops[j]? = some o ∧ d ∈ depsOf o ∧ (waitsB ops m r).testBit d = true
  | [], m, j, h => .inl h
  | q :: r, m, j, h => by
    simp only [waitsB] at h ⊢
    split at h
    · rename_i o ho
      rw [nthO_eq] at ho
      split at h
      · exact waits_dep h
      · rename_i hne
        rcases waits_dep h with h1 | ⟨o', d, h1, h2, h3⟩
        · rw [bit_or] at h1
          rcases h1 with h1 | h1
          · rw [shift_mask] at h1
            have h1 := (testBit_maskOf [q] j).1 h1
            simp only [List.mem_singleton] at h1
            subst h1
            obtain ⟨d, h4, h5⟩ := land_bit (by rw [hne]; simp)
            exact .inr ⟨o, d, ho, (testBit_maskOf _ d).1 h4, waits_mono (bit_or.2 (.inr h5))⟩
          · exact .inl h1
        · exact .inr ⟨o', d, h1, h2, h3⟩
    · exact waits_dep h
/-- Who waits for x can't come while x hasn't. -/
theorem waits_no {ops : List Oper} {l : List Nat} (down : ∀ j o, j ∉ l → ops[j]? = some o → ∀ d ∈ depsOf o, d ∉ l) {x i : Nat} {r : List Nat} (hx : x ∈ l) (hix : i ≠ x) (hlin : ∀ o, ops[i]? = some o → ∀ d ∈ depsOf o, d ∉ l) : ¬ (waitsB ops (Nat.shiftLeft 1 x) r).testBit i = true := by
  intro h
  have hm : ∀ j, (Nat.shiftLeft 1 x).testBit j = true → j ∈ l := by
    intro j hj
    rw [shift_mask] at hj
    have := (testBit_maskOf [x] j).1 hj
    simp only [List.mem_singleton] at this
    subst this; exact hx
  rcases waits_dep h with h1 | ⟨o, d, h1, h2, h3⟩
  · rw [shift_mask] at h1
    have := (testBit_maskOf [x] i).1 h1
    simp only [List.mem_singleton] at this
    exact hix this
  · exact hlin o h1 d h2 (waits_in down hm d h3)

theorem memB_iff {t : Nat} : ∀ {l : List Nat}, memB t l = true ↔ t ∈ l
  | [] => by simp [memB]
  | u :: r => by
    simp only [memB]
    split
    · rename_i h; have := Nat.eq_of_beq_eq_true h; subst this; simp
    · rename_i h
      rw [memB_iff, List.mem_cons]
      exact ⟨.inr, fun h' => h'.elim (fun e => by subst e; simp at h) id⟩
/-- What the check on slots says. -/
structure SsaAt (P : Program) (ops : List Oper) (i : Nat) (o : Oper) (t : Nat) : Prop where
  self : t ∉ readsOf ops o
  one : ∀ j q, ops[j]? = some q → j ≠ i → q.dst ≠ some t
  reads : ∀ j q, ops[j]? = some q → j ≠ i → t ∈ readsOf ops q → i ∈ depsOf q ∨ (clsOf P o = 2 ∧ j ∈ depsOf o)
theorem ssaOne_spec {P : Program} {ops : List Oper} {i : Nat} {o : Oper} {t : Nat} : ∀ {rest : List Oper} {j : Nat}, ssaOne P ops i o t j rest = true → ∀ q' q, rest[q']? = some q →
    (j + q' = i → t ∉ readsOf ops o) ∧ (j + q' ≠ i → q.dst ≠ some t ∧ (t ∈ readsOf ops q → i ∈ depsOf q ∨ (clsOf P o = 2 ∧ j + q' ∈ depsOf o)))
  | [], j, _, q', q, h => by simp at h
  | p :: rest, j, h, q', q, hq => by
    simp only [ssaOne, Bool.and_eq_true] at h
    cases q' with
    | zero =>
      simp only [List.getElem?_cons_zero, Option.some.injEq] at hq; subst hq
      have h1 := h.1
      simp only [Nat.add_zero]
      split at h1
      · rename_i hb
        have := Nat.eq_of_beq_eq_true hb
        subst this
        refine ⟨fun _ => ?_, fun h => absurd rfl h⟩
        intro hm
        rw [memB_iff.2 hm] at h1
        simp at h1
      · rename_i hb
        refine ⟨fun e => by subst e; simp at hb, fun _ => ?_⟩
        simp only [Bool.and_eq_true] at h1
        obtain ⟨h2, h3⟩ := h1
        refine ⟨fun e => ?_, fun hm => ?_⟩
        · rw [e] at h2; simp at h2
        · rw [memB_iff.2 hm] at h3
          simp only [Bool.or_eq_true, Bool.and_eq_true] at h3
          rcases h3 with h3 | ⟨h3, h4⟩
          · exact .inl (hasB_iff.1 h3)
          · exact .inr ⟨Nat.eq_of_beq_eq_true h3, hasB_iff.1 h4⟩
    | succ q' =>
      simp only [List.getElem?_cons_succ] at hq
      have := ssaOne_spec h.2 q' q hq
      rw [show j + 1 + q' = j + (q' + 1) by omega] at this
      exact this
theorem ssaB_spec {P : Program} {ops : List Oper} : ∀ {rest : List Oper} {i : Nat}, ssaB P ops i rest = true → ∀ q o t, rest[q]? = some o → o.dst = some t → ssaOne P ops (i + q) o t 0 ops = true
  | [], i, _, q, o, t, h, _ => by simp at h
  | p :: rest, i, h, q, o, t, hq, ht => by
    simp only [ssaB, Bool.and_eq_true] at h
    cases q with
    | zero =>
      simp only [List.getElem?_cons_zero, Option.some.injEq] at hq; subst hq
      have h1 := h.1
      rw [ht] at h1
      exact h1
    | succ q =>
      simp only [List.getElem?_cons_succ] at hq
      have := ssaB_spec h.2 q o t hq ht
      rw [show i + 1 + q = i + (q + 1) by omega] at this
      exact this
theorem ssa_at {P : Program} {ops : List Oper} (h : ssaB P ops 0 ops = true) {i : Nat} {o : Oper} {t : Nat} (ho : ops[i]? = some o) (ht : o.dst = some t) : SsaAt P ops i o t := by
  have h1 := ssaB_spec h i o t ho ht
  rw [Nat.zero_add] at h1
  have h2 := ssaOne_spec h1
  refine ⟨?_, fun j q hq hj => ?_, fun j q hq hj hm => ?_⟩
  · have := (h2 i o ho).1 (by omega); exact this
  · exact ((h2 j q hq).2 (by omega)).1
  · have := ((h2 j q hq).2 (by omega)).2 hm
    rw [Nat.zero_add] at this; exact this
theorem back_spec : ∀ {rest : List Oper} {i : Nat}, backB i rest = true → ∀ q o, rest[q]? = some o → (∀ d ∈ depsOf o, d < i + q) ∧ ∀ j w, o.guard = some (j, w) → j ∈ depsOf o
  | [], i, _, q, o, h => by simp at h
  | p :: rest, i, h, q, o, hq => by
    simp only [backB, Bool.and_eq_true] at h
    obtain ⟨⟨h1, h2⟩, h3⟩ := h
    cases q with
    | zero =>
      simp only [List.getElem?_cons_zero, Option.some.injEq] at hq; subst hq
      refine ⟨fun d hd => ?_, fun j w hg => ?_⟩
      · have := List.all_eq_true.1 h1 d hd
        simpa using this
      · rw [hg] at h2; exact hasB_iff.1 h2
    | succ q =>
      simp only [List.getElem?_cons_succ] at hq
      have := back_spec h3 q o hq
      rw [show i + 1 + q = i + (q + 1) by omega] at this
      exact this
theorem sel_spec : ∀ {ops : List Oper}, selB ops = true → ∀ o ∈ ops, ∀ cs q, o.op ≠ .select cs q
  | [], _, o, h => by simp at h
  | p :: r, h, o, ho => by
    simp only [selB, Bool.and_eq_true] at h
    rcases List.mem_cons.1 ho with rfl | ho
    · intro cs q e
      rw [e] at h; simp at h
    · exact sel_spec h.2 o ho
end Go.Sx

/- The symbolic executor 'Sx': regions whose order is drawn: what the machine does while nothing is worked out. -/
namespace Go.Sx
open Go

theorem opTmps_mem {l : List Operand} {t : Nat} : t ∈ opTmps l ↔ .tmp t ∈ l := by
  induction l with
  | nil => simp [opTmps]
  | cons x r ih => cases x <;> simp [opTmps, ih]
theorem set_ne {tmps : Array Value} {d t : Nat} {v : Value} (h : t ≠ d) : (tmps.setIfInBounds d v)[t]? = tmps[t]? := Array.getElem?_setIfInBounds_ne (fun e => h e.symm)
/-- A slot that an operation doesn't look at makes no difference to it. -/
theorem exec_put {ops : List Oper} {o : Oper} (hs : ∀ cs q, o.op ≠ .select cs q) {tmps : Array Value} {d : Nat} (hd : d ∉ readsOf ops o) (v : Value) : execOp (Act.eval ⟨tmps.setIfInBounds d v, []⟩) o = execOp (Act.eval ⟨tmps, []⟩) o := by
  refine execOp_congr o hs fun x hx => ?_
  cases x with
  | tmp t =>
    have : t ≠ d := fun e => by
      subst e
      refine hd (List.mem_append_left _ (opTmps_mem.2 ?_))
      simpa using hx
    simp only [Act.eval, Array.getD_eq_getD_getElem?, set_ne this]
  | _ => rfl
/-- All that a region under way is. -/
structure DS (C : Cfg) (G : List (Nat × Obj)) (H : Hp) (nt : Nat) (fr : Fr) (ops : Array Oper) (r l : List Nat) (tmps : Array Value) (E : List (Nat × Obj)) (w : World) : Prop where
  size : tmps.size = nt
  frok : FrOk H.length H.ids fr
  hok : H.ok
  dr : Dr C.P ops.toList r H.ids fr l tmps E
  q : ∀ i ∈ l, i ∉ r → Quiet C.P ops H fr nt i
  own : OwnL w (H.den ++ (E ++ G))
theorem getL {ops : Array Oper} {i : Nat} {o : Oper} (h : ops.toList[i]? = some o) : ops[i]? = some o := by rwa [Array.getElem?_toList] at h
/-- What a coming operation looks at stands in its slots: one that has been worked out, or waits for nothing that hasn't. -/
theorem DS.reads {C : Cfg} {G : List (Nat × Obj)} {H : Hp} {nt : Nat} {fr : Fr} {ops : Array Oper} {r l : List Nat} {tmps : Array Value} {E : List (Nat × Obj)} {w : World} {i : Nat} (h : DS C G H nt fr ops r (i :: l) tmps E w) {o : Oper} (ho : ops.toList[i]? = some o) (hr : ∀ d ∈ depsOf o, d ∉ r) : FrOn H.ids fr (· ∈ readsOf ops.toList o) tmps := by
  intro t sv ht hf
  refine h.dr.on t sv hf (fun k q hk hkr hq e => ?_) (fun k q hk hkl hq e => ?_)
  · have hs := ssa_at h.dr.ssa hq e
    by_cases hki : i = k
    · subst hki; rw [ho] at hq; simp only [Option.some.injEq] at hq; subst hq; exact hs.self ht
    · rcases hs.reads i o ho hki ht with h1 | ⟨h1, _⟩
      · exact h.dr.lin.1 o ho k h1 hk
      · rw [h.dr.pend k q hk hkr hq] at h1; simp at h1
  · have hs := ssa_at h.dr.ssa hq e
    have hki : i ≠ k := fun e' => by subst e'; simp at hkl
    rcases hs.reads i o ho hki ht with h1 | ⟨h1, _⟩
    · exact hr k h1 hk
    · obtain ⟨Es, _, _, h3, h4⟩ := h.dr.early
      obtain ⟨x, hx, rfl⟩ := List.mem_map.1 (h3 k hk hkl)
      obtain ⟨_, _, o', d, b, obj, val, e1, e2, _⟩ := h4 x hx
      rw [hq] at e1; simp only [Option.some.injEq] at e1; subst e1
      rw [e2] at h1; simp at h1
/-- An object that was made ahead stays so, where a slot is written that it has nothing to do with. -/
theorem EarlyOk.put {P : Program} {ops : List Oper} (hsel : selB ops = true) {tmps : Array Value} {E : List (Nat × Obj)} {i : Nat} (h : EarlyOk P ops tmps E i) {d : Nat} {v : Value} (h1 : ∀ o, ops[i]? = some o → d ∉ readsOf ops o ∧ o.dst ≠ some d) : EarlyOk P ops (tmps.setIfInBounds d v) E i := by
  obtain ⟨o, d', b, obj, val, e1, e2, e3, e4, e5, e6, e7⟩ := h
  obtain ⟨f1, f2⟩ := h1 o e1
  refine ⟨o, d', b, obj, val, e1, e2, e3, fun w => ?_, e5, ?_, e7⟩
  · rw [exec_put (sel_spec hsel o (List.mem_of_getElem? e1)) f1]; exact e4 w
  · rw [set_ne (fun e => f2 (by rw [e3, e]))]; exact e6
/-- One that was worked out comes. -/
theorem DS.pend1 {C : Cfg} {G : List (Nat × Obj)} {H : Hp} {nt : Nat} {fr : Fr} {ops : Array Oper} {r l : List Nat} {tmps : Array Value} {E : List (Nat × Obj)} {w : World} {i : Nat} (h : DS C G H nt fr ops r (i :: l) tmps E w) (hi : i ∉ r) (b : Frame) (k : List Item) (cs : List Frame) :
    ∃ tmps', DS C G H nt fr ops r l tmps' E w ∧ step C.P (lone (b.at ⟨tmps, []⟩ (.inRegion ops (i :: l) :: k)) cs w) = .next (lone (b.at ⟨tmps', []⟩ (.inRegion ops l :: k)) cs w) := by
  obtain ⟨o, d, sv, ho, hd, hdn, hf, hq⟩ := h.q i (by simp) hi
  have hon := h.reads ho (h.dr.rdown i o hi ho)
  have hnd := List.nodup_cons.1 h.dr.nodup
  have key : ∃ val, sv.den H.ids = val ∧ step C.P (lone (b.at ⟨tmps, []⟩ (.inRegion ops (i :: l) :: k)) cs w) = .next (lone (b.at ⟨tmps.setIfInBounds d val, []⟩ (.inRegion ops l :: k)) cs w) := by
    rcases hq with ⟨h1, h2⟩ | h1
    · refine ⟨undef, h1, ?_⟩
      rw [step_unwanted (getL ho) (h2 ⟨tmps, []⟩ hon), hd]; rfl
    · obtain ⟨h2, h3⟩ := h1 ⟨tmps, []⟩ w _ hon h.own
      refine ⟨_, rfl, ?_⟩
      rw [step_value (getL ho) h2 h3, hd]; rfl
  obtain ⟨val, hval, hstep⟩ := key
  refine ⟨tmps.setIfInBounds d val, ⟨by simp [h.size], h.frok, h.hok, ?_, fun j hj hjr => h.q j (by simp [hj]) hjr, h.own⟩, hstep⟩
  have hs := ssa_at h.dr.ssa ho hd
  have hcls := h.dr.pend i o (by simp) hi ho
  refine { h.dr with
    nodup := hnd.2
    lt := fun j hj => h.dr.lt j (by simp [hj])
    lin := h.dr.lin.2
    down := fun j q hj hq d' hd' hl => ?_
    pend := fun j q hj => h.dr.pend j q (by simp [hj])
    early := ?_
    on := fun t sv' ht h1 h2 => ?_ }
  · by_cases hji : j = i
    · subst hji; rw [ho] at hq; simp only [Option.some.injEq] at hq; subst hq
      exact h.dr.lin.1 o ho d' hd' (by simp [hl])
    · exact h.dr.down j q (by simp [hji, hj]) hq d' hd' (by simp [hl])
  · obtain ⟨Es, e1, e2, e3, e4⟩ := h.dr.early
    refine ⟨Es, e1, e2, fun j hj hjl => e3 j hj (by simp; exact ⟨fun e => hi (e ▸ hj), hjl⟩), fun x hx => ?_⟩
    obtain ⟨g1, g2, g3⟩ := e4 x hx
    refine ⟨g1, fun hxl => g2 (by simp [hxl]), g3.put h.dr.sel fun q hq => ⟨fun hm => ?_, hs.one x.1 q hq (fun e => hi (e ▸ g1))⟩⟩
    rcases hs.reads x.1 q hq (fun e => hi (e ▸ g1)) hm with h1 | ⟨h1, _⟩
    · exact h.dr.down x.1 q g2 hq i h1 (by simp)
    · rw [hcls] at h1; simp at h1
  · by_cases htd : t = d
    · subst htd
      rw [hf] at ht; simp only [Option.some.injEq] at ht; subst ht
      rw [hval]
      exact get_put_self (by rw [h.size]; exact hdn)
    · rw [set_ne htd]
      refine h.dr.on t sv' ht (fun j q hj hjr hq => ?_) (fun j q hj hjl hq => h2 j q hj (fun e => hjl (by simp [e])) hq)
      rcases List.mem_cons.1 hj with rfl | hj
      · rw [ho] at hq; simp only [Option.some.injEq] at hq; subst hq
        rw [hd]; exact fun e => htd (by simpa using e.symm)
      · exact h1 j q hj hjr hq
/-- An object is made ahead. -/
theorem DS.early1 {C : Cfg} {G : List (Nat × Obj)} {H : Hp} {nt : Nat} {fr : Fr} {ops : Array Oper} {r l : List Nat} {tmps : Array Value} {E : List (Nat × Obj)} {w : World} {i : Nat} (h : DS C G H nt fr ops r (i :: l) tmps E w) (hi : i ∈ r)
    {o : Oper} (ho : ops.toList[i]? = some o) (hc : clsOf C.P o = 1) (hg : o.guard = none) (hr : ∀ d ∈ depsOf o, d ∉ r) (ha : (aeval C.P C.globs H fr o.op).isSome = true) {d : Nat} (hd : o.dst = some d) (hdn : d < nt) (b : Frame) (k : List Item) (cs : List Frame) :
    ∃ tmps' E' w', DS C G H nt fr ops r l tmps' E' w' ∧ w'.os = w.os ∧ w'.output = w.output ∧ step C.P (lone (b.at ⟨tmps, []⟩ (.inRegion ops (i :: l) :: k)) cs w) = .next (lone (b.at ⟨tmps', []⟩ (.inRegion ops l :: k)) cs w') := by
  obtain ⟨⟨so, mk⟩, ha⟩ := Option.isSome_iff_exists.1 ha
  have hon := h.reads ho hr
  have he : (mkEnv C H fr tmps (· ∈ readsOf ops.toList o)).Ok := mkEnv_ok h.hok h.frok hon
  obtain ⟨obj, hm⟩ := aeval_sound he ha (fun t ht => List.mem_append_left _ ht)
  have hnd := List.nodup_cons.1 h.dr.nodup
  have hs := ssa_at h.dr.ssa ho hd
  let val : Nat → Value := fun n => (mk 0 n).den (fun _ => n)
  have hrun : ∀ w : World, (execOp (Act.eval ⟨tmps, []⟩) o).run C.P w = .ok (.value (val w.heap.size)) (w.alloc obj) := fun w => hm.run w 0 (fun _ => w.heap.size) rfl
  have hwant : Region.wanted o (yielded ops tmps) = true := by unfold Region.wanted; rw [hg]
  refine ⟨tmps.setIfInBounds d (val w.heap.size), (w.heap.size, obj) :: E, w.alloc obj, ⟨by simp [h.size], h.frok, h.hok, ?_, fun j hj hjr => h.q j (by simp [hj]) hjr, ?_⟩, rfl, rfl, ?_⟩
  · refine { h.dr with
      nodup := hnd.2
      lt := fun j hj => h.dr.lt j (by simp [hj])
      lin := h.dr.lin.2
      down := fun j q hj hq d' hd' hl => ?_
      pend := fun j q hj => h.dr.pend j q (by simp [hj])
      early := ?_
      on := fun t sv' ht h1 h2 => ?_ }
    · by_cases hji : j = i
      · subst hji; rw [ho] at hq; simp only [Option.some.injEq] at hq; subst hq
        exact h.dr.lin.1 o ho d' hd' (by simp [hl])
      · exact h.dr.down j q (by simp [hji, hj]) hq d' hd' (by simp [hl])
    · obtain ⟨Es, e1, e2, e3, e4⟩ := h.dr.early
      refine ⟨(i, [(w.heap.size, obj)]) :: Es, by simp [e1], ?_, fun j hj hjl => ?_, fun x hx => ?_⟩
      · simp only [List.map_cons, List.nodup_cons]
        refine ⟨fun hm => ?_, e2⟩
        obtain ⟨x, hx, hxi⟩ := List.mem_map.1 hm
        exact (e4 x hx).2.1 (by rw [hxi]; simp)
      · by_cases hji : j = i
        · simp [hji]
        · simp only [List.map_cons]
          exact List.mem_cons_of_mem _ (e3 j hj (by simp [hji, hjl]))
      · rcases List.mem_cons.1 hx with rfl | hx
        · refine ⟨hi, hnd.1, o, d, w.heap.size, obj, val, ho, hc, hd, fun w' => ?_, rfl, get_put_self (by rw [h.size]; exact hdn), hg⟩
          rw [exec_put (sel_spec h.dr.sel o (List.mem_of_getElem? ho)) hs.self]; exact hrun w'
        · obtain ⟨g1, g2, g3⟩ := e4 x hx
          have hxi : x.1 ≠ i := fun e => g2 (by simp [e])
          refine ⟨g1, fun hxl => g2 (by simp [hxl]), g3.put h.dr.sel fun q hq => ⟨fun hm => ?_, hs.one x.1 q hq hxi⟩⟩
          rcases hs.reads x.1 q hq hxi hm with h1 | ⟨h1, _⟩
          · exact h.dr.down x.1 q g2 hq i h1 (by simp)
          · rw [hc] at h1; simp at h1
    · have htd : t ≠ d := fun e => h2 i o hi hnd.1 ho (by rw [hd, e])
      rw [set_ne htd]
      refine h.dr.on t sv' ht (fun j q hj hjr hq => ?_) (fun j q hj hjl hq => h2 j q hj (fun e => hjl (by simp [e])) hq)
      rcases List.mem_cons.1 hj with rfl | hj
      · exact absurd hi hjr
      · exact h1 j q hj hjr hq
  · exact (h.own.alloc obj).perm (by simpa using (List.perm_middle (a := (w.heap.size, obj)) (l₁ := H.den) (l₂ := E ++ G)).symm)
  · rw [step_value (getL ho) hwant (hrun w), hd]; rfl
/-- What may come ahead of x comes, till x is next; or x came. -/
theorem DS.advance {C : Cfg} {G : List (Nat × Obj)} {H : Hp} {nt : Nat} {fr : Fr} {ops : Array Oper} {x : Nat} {r' : List Nat} (hfree : freeB C.P ops.toList (x :: r') (waitsB ops.toList (Nat.shiftLeft 1 x) r') r' = true) (hearly : earlyB C.P C.globs H fr ops.toList nt (x :: r') r' = true) (b : Frame) (k : List Item) (cs : List Frame) :
    ∀ {l : List Nat} {tmps : Array Value} {E : List (Nat × Obj)} {w : World}, DS C G H nt fr ops (x :: r') l tmps E w → x ∈ l →
      ∃ l' tmps' E' w', DS C G H nt fr ops (x :: r') (x :: l') tmps' E' w' ∧ w'.os = w.os ∧ w'.output = w.output ∧ Steps C.P (lone (b.at ⟨tmps, []⟩ (.inRegion ops l :: k)) cs w) (lone (b.at ⟨tmps', []⟩ (.inRegion ops (x :: l') :: k)) cs w')
  | [], _, _, _, _, hx => by simp at hx
  | i :: l, tmps, E, w, h, hx => by
    by_cases hix : i = x
    · subst hix; exact ⟨l, tmps, E, w, h, rfl, rfl, Steps.refl _ _⟩
    · have hxl : x ∈ l := by rcases List.mem_cons.1 hx with e | e; exact absurd e.symm hix; exact e
      by_cases hir : i ∈ x :: r'
      · have hir' : i ∈ r' := by rcases List.mem_cons.1 hir with e | e; exact absurd e hix; exact e
        -- what the checks say of i
        have hf : ∃ o, nthO ops.toList i = some o ∧ ((waitsB ops.toList (Nat.shiftLeft 1 x) r').testBit i = true ∨ (clsOf C.P o = 1 ∧ readyB o (x :: r') = true ∧ o.guard = none)) := by
          have gen : ∀ {l0 : List Nat}, freeB C.P ops.toList (x :: r') (waitsB ops.toList (Nat.shiftLeft 1 x) r') l0 = true → i ∈ l0 → ∃ o, nthO ops.toList i = some o ∧ ((waitsB ops.toList (Nat.shiftLeft 1 x) r').testBit i = true ∨ (clsOf C.P o = 1 ∧ readyB o (x :: r') = true ∧ o.guard = none)) := by
            intro l0
            induction l0 with
            | nil => intro _ h; simp at h
            | cons j l0 ih =>
              intro hfr hm
              simp only [freeB] at hfr
              split at hfr
              · rename_i o hoj
                simp only [Bool.and_eq_true, Bool.or_eq_true] at hfr
                rcases List.mem_cons.1 hm with rfl | hm
                · refine ⟨o, hoj, ?_⟩
                  rcases hfr.1 with h1 | ⟨⟨h1, h2⟩, h3⟩
                  · left
                    refine Classical.byContradiction fun hn => ?_
                    have : Nat.beq (Nat.land (waitsB ops.toList (Nat.shiftLeft 1 x) r') (Nat.shiftLeft 1 i)) 0 = true := by
                      refine Classical.byContradiction fun hne => ?_
                      obtain ⟨d, g1, g2⟩ := land_bit hne
                      rw [shift_mask] at g2
                      have := (testBit_maskOf [i] d).1 g2
                      simp only [List.mem_singleton] at this
                      subst this; exact hn g1
                    rw [this] at h1; simp at h1
                  · exact .inr ⟨Nat.eq_of_beq_eq_true h1, h2, by simpa using h3⟩
                · exact ih hfr.2 hm
              · simp at hfr
          exact gen hfree hir'
        obtain ⟨o, hon, hcase⟩ := hf
        have ho : ops.toList[i]? = some o := by rw [← nthO_eq]; exact hon
        rcases hcase with hbit | ⟨hc, hrd, hg⟩
        · exfalso
          refine waits_no (l := i :: l) h.dr.down hx hix (fun o' ho' => ?_) hbit
          exact h.dr.lin.1 o' ho'
        · have hE : (aeval C.P C.globs H fr o.op).isSome = true ∧ o.dst.isSome = true ∧ putB nt o.dst = true := by
            have gen : ∀ {l0 : List Nat}, earlyB C.P C.globs H fr ops.toList nt (x :: r') l0 = true → i ∈ l0 → (aeval C.P C.globs H fr o.op).isSome = true ∧ o.dst.isSome = true ∧ putB nt o.dst = true := by
              intro l0
              induction l0 with
              | nil => intro _ h; simp at h
              | cons j l0 ih =>
                intro hfr hm
                simp only [earlyB] at hfr
                split at hfr
                · rename_i o' hoj
                  simp only [Bool.and_eq_true] at hfr
                  rcases List.mem_cons.1 hm with rfl | hm
                  · rw [hon] at hoj; simp only [Option.some.injEq] at hoj; subst hoj
                    have h1 := hfr.1
                    rw [hrd] at h1
                    rw [show Nat.beq (clsOf C.P o) 1 = true by rw [hc]; rfl] at h1
                    simp only [hg, Option.isNone_none, Bool.and_self, Bool.and_eq_true] at h1
                    exact ⟨h1.1.1, h1.1.2, h1.2⟩
                  · exact ih hfr.2 hm
                · simp at hfr
            exact gen hearly hir'
          obtain ⟨hE1, hE2, hE3⟩ := hE
          obtain ⟨d, hd⟩ := Option.isSome_iff_exists.1 hE2
          have hdn : d < nt := by
            rw [hd] at hE3
            simp only [putB, Bool.and_eq_true] at hE3
            exact Nat.le_of_ble_eq_true hE3.1
          obtain ⟨tmps', E', w', h', e1, e2, hst⟩ := h.early1 hir ho hc hg (readyB_iff.1 hrd) hE1 hd hdn b k cs
          obtain ⟨l2, tmps2, E2, w2, h2, f1, f2, hst2⟩ := DS.advance hfree hearly b k cs h' hxl
          exact ⟨l2, tmps2, E2, w2, h2, f1.trans e1, f2.trans e2, .head hst hst2⟩
      · obtain ⟨tmps', h', hst⟩ := h.pend1 hir b k cs
        obtain ⟨l2, tmps2, E2, w2, h2, f1, f2, hst2⟩ := DS.advance hfree hearly b k cs h' hxl
        exact ⟨l2, tmps2, E2, w2, h2, f1, f2, .head hst hst2⟩
/-- What is left comes, where all was worked out. -/
theorem DS.finish {C : Cfg} {G : List (Nat × Obj)} {H : Hp} {nt : Nat} {fr : Fr} {ops : Array Oper} (b : Frame) (k : List Item) (cs : List Frame) :
    ∀ {l : List Nat} {tmps : Array Value} {E : List (Nat × Obj)} {w : World}, DS C G H nt fr ops [] l tmps E w → ∃ tmps', DS C G H nt fr ops [] [] tmps' E w ∧ Steps C.P (lone (b.at ⟨tmps, []⟩ (.inRegion ops l :: k)) cs w) (lone (b.at ⟨tmps', []⟩ (.inRegion ops [] :: k)) cs w)
  | [], tmps, E, w, h => ⟨tmps, h, Steps.refl _ _⟩
  | i :: l, tmps, E, w, h => by
    obtain ⟨tmps', h', hst⟩ := h.pend1 (by simp) b k cs
    obtain ⟨tmps2, h2, hst2⟩ := DS.finish b k cs h'
    exact ⟨tmps2, h2, .head hst hst2⟩
end Go.Sx

/- The symbolic executor 'Sx': regions whose order is drawn: how the state goes on. -/
namespace Go.Sx
open Go

theorem putD_get {fr : Fr} {nt d : Nat} {v : SV} (hb : putB nt (some d) = true) (t : Nat) : (putD fr nt (some d) v).get t = if t = d then some v else fr.get t := by
  simp only [putB, Bool.and_eq_true] at hb
  have := Nat.le_of_ble_eq_true hb.2
  simp only [putD, hb.1, Tr.put, hb.2]
  exact Tr.set_get 13 fr d v (by omega) t
theorem putB_lt {nt d : Nat} (hb : putB nt (some d) = true) : d < nt := by
  simp only [putB, Bool.and_eq_true] at hb
  exact Nat.le_of_ble_eq_true hb.1
theorem fron_put {fr : Fr} {nt d : Nat} {v : SV} (hb : putB nt (some d) = true) {ids : Nat → Nat} {X : Nat → Prop} (hd : ¬ X d) {tm : Array Value} (h : FrOn ids (putD fr nt (some d) v) X tm) : FrOn ids fr X tm :=
  fun t sv hx ht => h t sv hx (by rw [putD_get hb, if_neg (fun e : t = d => hd (by rw [← e]; exact hx))]; exact ht)
theorem frok_put {N nt : Nat} {ids : Nat → Nat} {fr : Fr} (hok : FrOk N ids fr) {d : Option Nat} {v : SV} (hv : v.ok N ids) : FrOk N ids (putD fr nt d v) :=
  (put_sound (nt := nt) (X := fun _ => False) (tmps := Array.replicate nt undef) (by simp) hok (fun _ _ h => h.elim) hv).1
theorem Quiet.put {P : Program} {ops : Array Oper} {H : Hp} {fr : Fr} {nt i : Nat} (h : Quiet P ops H fr nt i) {d : Nat} {v : SV} (hb : putB nt (some d) = true) (h1 : ∀ o, ops.toList[i]? = some o → d ∉ readsOf ops.toList o ∧ o.dst ≠ some d) : Quiet P ops H (putD fr nt (some d) v) nt i := by
  obtain ⟨o, d', sv, ho, hd, hn, hf, hq⟩ := h
  obtain ⟨r1, r2⟩ := h1 o ho
  have hdd : d' ≠ d := fun e => r2 (by rw [hd, e])
  refine ⟨o, d', sv, ho, hd, hn, by rw [putD_get hb, if_neg hdd]; exact hf, ?_⟩
  rcases hq with ⟨q1, q2⟩ | q
  · exact .inl ⟨q1, fun a ha => q2 a (fron_put hb r1 ha)⟩
  · exact .inr fun a w F ha => q a w F (fron_put hb r1 ha)
theorem Quiet.ext {P : Program} {ops : Array Oper} {H : Hp} {fr : Fr} {nt i : Nat} (hfr : FrOk H.length H.ids fr) {H' : Hp} (he : Ext H H') (hsub : ∃ R, H'.den = H.den ++ R) (h : Quiet P ops H fr nt i) : Quiet P ops H' fr nt i := by
  obtain ⟨o, d', sv, ho, hd, hn, hf, hq⟩ := h
  have e1 := (he.sv (hfr d' sv hf)).1
  refine ⟨o, d', sv, ho, hd, hn, hf, ?_⟩
  rcases hq with ⟨q1, q2⟩ | q
  · exact .inl ⟨by rw [e1, q1], fun a ha => q2 a ((he.fron hfr).2 ha)⟩
  · obtain ⟨R, hR⟩ := hsub
    refine .inr fun a w F ha hw => ?_
    rw [e1]
    exact q a w (R ++ F) ((he.fron hfr).2 ha) (by rw [← List.append_assoc, ← hR]; exact hw)
theorem ord_head {P : Program} {ops : List Oper} {x : Nat} {r : List Nat} (h : orderB P ops (x :: r) = true) {o : Oper} (ho : ops[x]? = some o) :
    (∀ d ∈ depsOf o, d ∉ x :: r) ∧ (clsOf P o ≠ 0 → freeB P ops (x :: r) (waitsB ops (Nat.shiftLeft 1 x) r) r = true) ∧ orderB P ops r = true := by
  simp only [orderB] at h
  rw [nthO_eq, ho] at h
  simp only [Bool.and_eq_true] at h
  refine ⟨readyB_iff.1 h.1.1, fun hne => ?_, h.2⟩
  have h2 := h.1.2
  split at h2
  · rename_i hb; exact absurd (Nat.eq_of_beq_eq_true hb) hne
  · exact h2
theorem Dr.rdown' {P : Program} {ops : List Oper} {x : Nat} {r : List Nat} {ids : Nat → Nat} {fr : Fr} {l : List Nat} {tmps : Array Value} {E : List (Nat × Obj)} (h : Dr P ops (x :: r) ids fr l tmps E) {o : Oper} (ho : ops[x]? = some o) : ∀ j q, j ∉ r → ops[j]? = some q → ∀ d ∈ depsOf q, d ∉ r := by
  intro j q hj hq d hd hr
  by_cases hjx : j = x
  · subst hjx; rw [ho] at hq; simp only [Option.some.injEq] at hq; subst hq
    exact (ord_head h.ord ho).1 d hd (by simp [hr])
  · exact h.rdown j q (by simp [hjx, hj]) hq d hd (by simp [hr])
theorem Dr.inl {P : Program} {ops : List Oper} {x : Nat} {r : List Nat} {ids : Nat → Nat} {fr : Fr} {l : List Nat} {tmps : Array Value} {E : List (Nat × Obj)} (h : Dr P ops (x :: r) ids fr l tmps E) {o : Oper} (ho : ops[x]? = some o) (hc : clsOf P o ≠ 1) : x ∈ l := by
  refine Classical.byContradiction fun hx => ?_
  obtain ⟨Es, _, _, h3, h4⟩ := h.early
  obtain ⟨e, he, rfl⟩ := List.mem_map.1 (h3 x (by simp) hx)
  obtain ⟨_, _, q, _, _, _, _, hq, hcq, _⟩ := h4 e he
  rw [ho] at hq; simp only [Option.some.injEq] at hq; subst hq
  exact hc hcq
theorem Dr.inl' {P : Program} {ops : List Oper} {x : Nat} {r : List Nat} {ids : Nat → Nat} {fr : Fr} {l : List Nat} {tmps : Array Value} {E : List (Nat × Obj)} (h : Dr P ops (x :: r) ids fr l tmps E) {o : Oper} (ho : ops[x]? = some o) (hc : o.guard ≠ none) : x ∈ l := by
  refine Classical.byContradiction fun hx => ?_
  obtain ⟨Es, _, _, h3, h4⟩ := h.early
  obtain ⟨e, he, rfl⟩ := List.mem_map.1 (h3 x (by simp) hx)
  obtain ⟨_, _, q, _, _, _, _, hq, _, _, _, _, _, hgq⟩ := h4 e he
  rw [ho] at hq; simp only [Option.some.injEq] at hq; subst hq
  exact hc hgq
/-- A quiet operation is worked out. -/
theorem DS.quiet {C : Cfg} {G : List (Nat × Obj)} {H : Hp} {nt : Nat} {fr : Fr} {ops : Array Oper} {x : Nat} {r l : List Nat} {tmps : Array Value} {E : List (Nat × Obj)} {w : World} (h : DS C G H nt fr ops (x :: r) l tmps E w) {o : Oper} (ho : ops.toList[x]? = some o) (hc : clsOf C.P o = 0) {d : Nat} (hd : o.dst = some d) (hb : putB nt (some d) = true) {v : SV} (hv : v.ok H.length H.ids)
    (hq : Quiet C.P ops H (putD fr nt (some d) v) nt x) : DS C G H nt (putD fr nt (some d) v) ops r l tmps E w := by
  have hs := ssa_at h.dr.ssa ho hd
  have hxl : x ∈ l := h.dr.inl ho (by rw [hc]; simp)
  have hnd := List.nodup_cons.1 h.dr.rnodup
  have hrd := h.dr.rdown' ho
  refine ⟨h.size, frok_put h.frok hv, h.hok, ?_, fun i hi hir => ?_, h.own⟩
  · refine { h.dr with
      ord := (ord_head h.dr.ord ho).2.2
      rnodup := hnd.2
      rlt := fun i hi => h.dr.rlt i (by simp [hi])
      rdown := hrd
      pend := fun i q hi hir hq' => ?_
      early := ?_
      on := fun t sv ht h1 h2 => ?_ }
    · by_cases hix : i = x
      · subst hix; rw [ho] at hq'; simp only [Option.some.injEq] at hq'; subst hq'; exact hc
      · exact h.dr.pend i q hi (by simp [hix, hir]) hq'
    · obtain ⟨Es, e1, e2, e3, e4⟩ := h.dr.early
      refine ⟨Es, e1, e2, fun i hi hil => e3 i (by simp [hi]) hil, fun e he => ?_⟩
      obtain ⟨g1, g2, g3⟩ := e4 e he
      refine ⟨?_, g2, g3⟩
      rcases List.mem_cons.1 g1 with e' | e'
      · rw [e'] at g2; exact absurd hxl g2
      · exact e'
    · have htd : t ≠ d := fun e => h1 x o hxl hnd.1 ho (by rw [hd, e])
      rw [putD_get hb, if_neg htd] at ht
      refine h.dr.on t sv ht (fun i q hi hir hq => h1 i q hi (fun e => hir (by simp [e])) hq) (fun i q hi hil hq => ?_)
      rcases List.mem_cons.1 hi with rfl | hi
      · exact absurd hxl hil
      · exact h2 i q hi hil hq
  · by_cases hix : i = x
    · subst hix; exact hq
    · refine (h.q i hi (by simp [hix, hir])).put hb fun q hq => ⟨fun hm => ?_, hs.one i q hq hix⟩
      rcases hs.reads i q hq hix hm with h1 | ⟨h1, _⟩
      · exact h.dr.rdown i q (by simp [hix, hir]) hq x h1 (by simp)
      · rw [hc] at h1; simp at h1
/-- What has been worked out doesn't look at what x, which is next, yields. -/
theorem Dr.apart {P : Program} {ops : List Oper} {x : Nat} {r : List Nat} {ids : Nat → Nat} {fr : Fr} {l : List Nat} {tmps : Array Value} {E : List (Nat × Obj)} (h : Dr P ops (x :: r) ids fr (x :: l) tmps E) {o : Oper} (ho : ops[x]? = some o) {d : Nat} (hd : o.dst = some d) :
    ∀ i ∈ l, i ∉ r → ∀ q, ops[i]? = some q → d ∉ readsOf ops q ∧ q.dst ≠ some d := by
  intro i hi hir q hq
  have hs := ssa_at h.ssa ho hd
  have hix : i ≠ x := fun e => (List.nodup_cons.1 h.nodup).1 (e ▸ hi)
  refine ⟨fun hm => ?_, hs.one i q hq hix⟩
  rcases hs.reads i q hq hix hm with h1 | ⟨_, h1⟩
  · exact h.rdown i q (by simp [hix, hir]) hq x h1 (by simp)
  · exact h.lin.1 o ho i h1 (by simp [hi])
theorem act_put {tmps : Array Value} {d : Option Nat} {v : Value} : (⟨tmps, []⟩ : Act).put d v = ⟨((⟨tmps, []⟩ : Act).put d v).tmps, []⟩ := by cases d <;> rfl
/-- One that is next has come, and has been worked out. -/
theorem Dr.loud {P : Program} {ops : List Oper} {x : Nat} {r : List Nat} {ids : Nat → Nat} {fr : Fr} {l : List Nat} {tmps : Array Value} {E : List (Nat × Obj)} (h : Dr P ops (x :: r) ids fr (x :: l) tmps E) {nt : Nat} (hsz : tmps.size = nt) {o : Oper} (ho : ops[x]? = some o) (hb : putB nt o.dst = true) (v : SV) :
    Dr P ops r ids (putD fr nt o.dst v) l ((⟨tmps, []⟩ : Act).put o.dst (v.den ids)).tmps E := by
  have hnl := List.nodup_cons.1 h.nodup
  have hnr := List.nodup_cons.1 h.rnodup
  refine { h with
    nodup := hnl.2
    lt := fun j hj => h.lt j (by simp [hj])
    lin := h.lin.2
    down := fun j q hj hq d' hd' hl => ?_
    ord := (ord_head h.ord ho).2.2
    rnodup := hnr.2
    rlt := fun i hi => h.rlt i (by simp [hi])
    rdown := h.rdown' ho
    pend := fun i q hi hir hq => h.pend i q (by simp [hi]) (by
      have hix : i ≠ x := fun e => hnl.1 (e ▸ hi)
      simp [hix, hir]) hq
    early := ?_
    on := fun t sv ht h1 h2 => ?_ }
  · by_cases hji : j = x
    · subst hji; rw [ho] at hq; simp only [Option.some.injEq] at hq; subst hq
      exact h.lin.1 o ho d' hd' (by simp [hl])
    · exact h.down j q (by simp [hji, hj]) hq d' hd' (by simp [hl])
  · obtain ⟨Es, e1, e2, e3, e4⟩ := h.early
    refine ⟨Es, e1, e2, fun i hi hil => e3 i (by simp [hi]) (by
      have hix : i ≠ x := fun e => hnr.1 (e ▸ hi)
      simp [hix, hil]), fun e he => ?_⟩
    obtain ⟨g1, g2, g3⟩ := e4 e he
    have hex : e.1 ≠ x := fun e' => g2 (by simp [e'])
    have her : e.1 ∈ r := by rcases List.mem_cons.1 g1 with e' | e'; exact absurd e' hex; exact e'
    refine ⟨her, fun hl => g2 (by simp [hl]), ?_⟩
    cases hd : o.dst with
    | none => exact g3
    | some d =>
      have hs := ssa_at h.ssa ho hd
      refine g3.put h.sel fun q hq => ⟨fun hm => ?_, hs.one e.1 q hq hex⟩
      rcases hs.reads e.1 q hq hex hm with h1 | ⟨_, h1⟩
      · exact h.down e.1 q g2 hq x h1 (by simp)
      · exact (ord_head h.ord ho).1 e.1 h1 g1
  · have old : (o.dst ≠ some t) → fr.get t = some sv → tmps[t]? = some (sv.den ids) := by
      intro hne ht
      refine h.on t sv ht (fun i q hi hir hq => ?_) (fun i q hi hil hq => ?_)
      · rcases List.mem_cons.1 hi with rfl | hi
        · exact absurd (by simp) hir
        · exact h1 i q hi (fun e => hir (by simp [e])) hq
      · rcases List.mem_cons.1 hi with rfl | hi
        · exact absurd (by simp) hil
        · exact h2 i q hi (fun e => hil (by simp [e])) hq
    revert hb old ht
    cases o.dst with
    | none => intro hb ht old; exact old (by simp) ht
    | some d =>
      intro hb ht old
      rw [putD_get hb] at ht
      split at ht
      · rename_i e; subst e
        simp only [Option.some.injEq] at ht; subst ht
        exact get_put_self (by rw [hsz]; exact putB_lt hb)
      · rename_i hne
        show (tmps.setIfInBounds d (v.den ids))[t]? = _
        rw [set_ne hne]
        exact old (fun e => hne (by simp only [Option.some.injEq] at e; exact e.symm)) ht
theorem DS.loud {C : Cfg} {G : List (Nat × Obj)} {H : Hp} {nt : Nat} {fr : Fr} {ops : Array Oper} {x : Nat} {r l : List Nat} {tmps : Array Value} {E : List (Nat × Obj)} {w : World} (h : DS C G H nt fr ops (x :: r) (x :: l) tmps E w) {o : Oper} (ho : ops.toList[x]? = some o) (hb : putB nt o.dst = true)
    {H' : Hp} (he : Ext H H') (hsub : ∃ R, H'.den = H.den ++ R) (hok : H'.ok) {w' : World} (hw : OwnL w' (H'.den ++ (E ++ G))) {v : SV} (hv : v.ok H'.length H'.ids) :
    DS C G H' nt (putD fr nt o.dst v) ops r l ((⟨tmps, []⟩ : Act).put o.dst (v.den H'.ids)).tmps E w' := by
  refine ⟨?_, frok_put (he.frok h.frok) hv, hok, (he.dr h.frok h.dr).loud h.size ho hb v, fun i hi hir => ?_, hw⟩
  · cases o.dst <;> simp [Act.put, h.size]
  · have hix : i ≠ x := fun e => (List.nodup_cons.1 h.dr.nodup).1 (e ▸ hi)
    have hq := (h.q i (by simp [hi]) (by simp [hix, hir])).ext h.frok he hsub
    cases hd : o.dst with
    | none => exact hq
    | some d => rw [hd] at hb; exact hq.put hb (h.dr.apart ho hd i hi hir)
/-- What x looks at, which was made ahead, stands in its slots. -/
theorem DS.readsE {C : Cfg} {G : List (Nat × Obj)} {H : Hp} {nt : Nat} {fr : Fr} {ops : Array Oper} {x : Nat} {r l : List Nat} {tmps : Array Value} {E : List (Nat × Obj)} {w : World} (h : DS C G H nt fr ops (x :: r) l tmps E w) (hx : x ∉ l) {o : Oper} (ho : ops.toList[x]? = some o) : FrOn H.ids fr (· ∈ readsOf ops.toList o) tmps := by
  intro t sv ht hf
  refine h.dr.on t sv hf (fun k q hk hkr hq e => ?_) (fun k q hk hkl hq e => ?_)
  · have hs := ssa_at h.dr.ssa hq e
    have hxk : x ≠ k := fun e' => hx (e' ▸ hk)
    rcases hs.reads x o ho hxk ht with h1 | ⟨h1, _⟩
    · exact h.dr.down x o hx ho k h1 hk
    · rw [h.dr.pend k q hk hkr hq] at h1; simp at h1
  · have hs := ssa_at h.dr.ssa hq e
    by_cases hxk : x = k
    · subst hxk; rw [ho] at hq; simp only [Option.some.injEq] at hq; subst hq; exact hs.self ht
    · rcases hs.reads x o ho hxk ht with h1 | ⟨h1, _⟩
      · exact (ord_head h.dr.ord ho).1 k h1 hk
      · obtain ⟨Es, _, _, h3, h4⟩ := h.dr.early
        obtain ⟨y, hy, rfl⟩ := List.mem_map.1 (h3 k hk hkl)
        obtain ⟨_, _, o', d, b, obj, val, e1, e2, _⟩ := h4 y hy
        rw [hq] at e1; simp only [Option.some.injEq] at e1; subst e1
        rw [e2] at h1; simp at h1
theorem alloc_inj {w : World} {o o' : Obj} (h : w.alloc o = w.alloc o') : o = o' := by
  have : (w.heap.push o) = (w.heap.push o') := congrArg World.heap h
  exact (Array.push_eq_push.1 this).1
/-- An object that was made ahead is worked out. -/
theorem DS.made {C : Cfg} {G : List (Nat × Obj)} {H : Hp} {nt : Nat} {fr : Fr} {ops : Array Oper} {x : Nat} {r l : List Nat} {tmps : Array Value} {E : List (Nat × Obj)} {w : World} (h : DS C G H nt fr ops (x :: r) l tmps E w) (hx : x ∉ l) {o : Oper} (ho : ops.toList[x]? = some o) (hb : putB nt o.dst = true)
    {so : SO} {mk : Nat → Nat → SV} (ha : aeval C.P C.globs H fr o.op = some (so, mk)) : ∃ b E', DS C G (H ++ [(b, some so)]) nt (putD fr nt o.dst (mk H.length b)) ops r l tmps E' w := by
  have he : (mkEnv C H fr tmps (· ∈ readsOf ops.toList o)).Ok := mkEnv_ok h.hok h.frok (h.readsE hx ho)
  obtain ⟨obj, hm⟩ := aeval_sound he ha (fun t ht => List.mem_append_left _ ht)
  obtain ⟨Es, e1, e2, e3, e4⟩ := h.dr.early
  obtain ⟨y, hy, hyx⟩ := List.mem_map.1 (e3 x (by simp) hx)
  obtain ⟨y1, Ey⟩ := y
  simp only at hyx; subst hyx
  obtain ⟨_, _, o', d, b, obj', val, g1, g2, g3, g4, g5, g6, _⟩ := e4 _ hy
  simp only at g1 g5
  rw [ho] at g1; simp only [Option.some.injEq] at g1; subst g1
  have hobj : ∀ w0 : World, obj = obj' ∧ ∀ ids : Nat → Nat, ids H.length = w0.heap.size → (mk H.length w0.heap.size).den ids = val w0.heap.size := by
    intro w0
    have r1 := g4 w0
    have r2 : ∀ ids : Nat → Nat, ids H.length = w0.heap.size → (execOp (Act.eval ⟨tmps, []⟩) o).run C.P w0 = _ := fun ids hi => hm.run w0 H.length ids hi
    have r3 := r2 (fun _ => w0.heap.size) rfl
    rw [r1] at r3
    simp only [Result.ok.injEq, Next.value.injEq] at r3
    refine ⟨(alloc_inj r3.2).symm, fun ids hi => ?_⟩
    have r4 := r2 ids hi
    rw [r1] at r4
    simp only [Result.ok.injEq, Next.value.injEq] at r4
    exact r4.1.symm
  have hval : (mk H.length b).den (Hp.ids (H ++ [(b, some so)])) = val b := by
    have := (hobj { w with heap := Array.replicate b obj }).2 (Hp.ids (H ++ [(b, some so)])) (by simp [ids_new])
    simpa using this
  have hobj := (hobj w).1
  subst hobj
  obtain ⟨A, B, hAB⟩ := List.append_of_mem hy
  subst hAB
  have hso := SO.same (fun j hj => ids_append (b, some so) hj) (Nat.le_succ H.length) b hm.ok
  have hden : (H ++ [(b, some so)]).den = H.den ++ [(b, obj)] := by
    rw [den_push h.hok, hso.1]
    have e0 := hm.den b
    simp only [mkEnv] at e0
    rw [e0]
  have hvok : (mk H.length b).ok (H ++ [(b, some so)]).length (H ++ [(b, some so)]).ids := by
    simpa using hm.vok H.length b _ (ids_new _ _)
  have hs := ssa_at h.dr.ssa ho g3
  rw [g3] at hb ⊢
  have hnr := List.nodup_cons.1 h.dr.rnodup
  refine ⟨b, (A ++ B).flatMap (·.2), ?_⟩
  refine ⟨h.size, frok_put ((ext_push _).frok h.frok) hvok, ok_push h.hok _ _ hso.2, ?_, fun i hi hir => ?_, ?_⟩
  · refine { (ext_push (b, some so)).dr h.frok h.dr with
      ord := (ord_head h.dr.ord ho).2.2
      rnodup := hnr.2
      rlt := fun i hi => h.dr.rlt i (by simp [hi])
      rdown := h.dr.rdown' ho
      pend := fun i q hi hir hq => h.dr.pend i q hi (by
        have hix : i ≠ y1 := fun e => hx (e ▸ hi)
        simp [hix, hir]) hq
      early := ?_
      on := fun t sv ht h1 h2 => ?_ }
    · refine ⟨A ++ B, rfl, ?_, fun i hi hil => ?_, fun e he => ?_⟩
      · exact e2.sublist ((List.Sublist.append (List.Sublist.refl A) (List.sublist_cons_self _ B)).map _)
      · have hix : i ≠ y1 := fun e => hnr.1 (e ▸ hi)
        have := e3 i (by simp [hi]) hil
        simp only [List.map_append, List.map_cons, List.mem_append, List.mem_cons] at this ⊢
        rcases this with h1 | h1 | h1
        · exact .inl h1
        · exact absurd h1 hix
        · exact .inr h1
      · have hmem : e ∈ A ++ (y1, Ey) :: B := by
          simp only [List.mem_append, List.mem_cons] at he ⊢
          rcases he with h1 | h1
          · exact .inl h1
          · exact .inr (.inr h1)
        obtain ⟨f1, f2, f3⟩ := e4 e hmem
        refine ⟨?_, f2, f3⟩
        rcases List.mem_cons.1 f1 with e' | e'
        · exfalso
          rw [List.map_append, List.map_cons, List.nodup_append] at e2
          obtain ⟨n1, n2, n3⟩ := e2
          simp only [List.nodup_cons] at n2
          rcases List.mem_append.1 he with h1 | h1
          · exact n3 e.1 (List.mem_map_of_mem h1) y1 (by simp) e'
          · exact n2.1 (by rw [← e']; exact List.mem_map_of_mem h1)
        · exact e'
    · rw [putD_get hb] at ht
      split at ht
      · rename_i e; subst e
        simp only [Option.some.injEq] at ht; subst ht
        rw [hval]; exact g6
      · rename_i hne
        rw [((ext_push (b, some so)).sv (h.frok t sv ht)).1]
        refine h.dr.on t sv ht (fun i q hi hir hq => h1 i q hi (fun e => hir (by simp [e])) hq) (fun i q hi hil hq => ?_)
        rcases List.mem_cons.1 hi with rfl | hi
        · rw [ho] at hq; simp only [Option.some.injEq] at hq; subst hq
          rw [g3]; exact fun e => hne (by simpa using e.symm)
        · exact h2 i q hi hil hq
  · have hix : i ≠ y1 := fun e => hx (e ▸ hi)
    refine ((h.q i hi (by simp [hix, hir])).ext h.frok (ext_push _) ⟨_, hden⟩).put hb fun q hq => ⟨fun hm' => ?_, hs.one i q hq hix⟩
    rcases hs.reads i q hq hix hm' with h1 | ⟨h1, _⟩
    · exact h.dr.rdown i q (by simp [hix, hir]) hq y1 h1 (by simp)
    · rw [g2] at h1; simp at h1
  · refine h.own.perm ?_
    rw [e1, hden, g5]
    simp only [List.flatMap_append, List.flatMap_cons, List.append_assoc]
    refine List.Perm.append_left _ ?_
    simp only [List.cons_append, List.nil_append]
    exact List.perm_middle
end Go.Sx
