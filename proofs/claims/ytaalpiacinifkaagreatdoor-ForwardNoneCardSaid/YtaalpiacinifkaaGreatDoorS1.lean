import Derived.Calls
import Derived.Laws.Cells
import Derived.Laws.StructEq
/- Part of the proof that ForwardNone of law 21 returns true whatever it is called with. No condition. -/
set_option linter.all false
/- The symbolic executor 'Sx': definitions. -/
namespace Go.Sx

/-! ### Small functions on lists and a table -/
def nthO {α : Type} : List α → Nat → Option α
  | [], _ => none
  | x :: _, 0 => some x
  | _ :: r, n + 1 => nthO r n
def updL {α : Type} : List α → Nat → α → List α
  | [], _, _ => []
  | _ :: r, 0, y => y :: r
  | x :: r, n + 1, y => x :: updL r n y
/-- n things from place o on; none: there are not so many. -/
def sub {α : Type} : List α → Nat → Nat → Option (List α)
  | _, 0, 0 => some []
  | [], _, _ => none
  | x :: r, 0, n + 1 => match sub r 0 n with | some l => some (x :: l) | none => none
  | _ :: r, o + 1, n => sub r o n
/-- things laid over others from place o on. -/
def over {α : Type} : List α → Nat → List α → Option (List α)
  | l, 0, [] => some l
  | [], _, _ => none
  | _ :: r, 0, y :: ys => match over r 0 ys with | some l => some (y :: l) | none => none
  | x :: r, o + 1, ys => match over r o ys with | some l => some (x :: l) | none => none

inductive Tr (α : Type) where
  | e
  | n (l : Tr α) (x : Option α) (r : Tr α)
def Tr.get {α : Type} : Tr α → Nat → Option α
  | .e, _ => none
  | .n l x r, t => match Nat.beq t 0 with
    | true => x
    | false => match Nat.beq (t % 2) 1 with
      | true => l.get (t / 2)
      | false => r.get (t / 2 - 1)
def Tr.set {α : Type} : Nat → Tr α → Nat → α → Tr α
  | 0, _, _, _ => .e
  | f + 1, t, i, y => match Nat.beq i 0 with
    | true => match t with
      | .e => .n .e (some y) .e
      | .n l _ r => .n l (some y) r
    | false => match Nat.beq (i % 2) 1 with
      | true => match t with
        | .e => .n (Tr.set f .e (i / 2) y) none .e
        | .n l x r => .n (Tr.set f l (i / 2) y) x r
      | false => match t with
        | .e => .n .e none (Tr.set f .e (i / 2 - 1) y)
        | .n l x r => .n l x (Tr.set f r (i / 2 - 1) y)
/-- The table with one more row (the rows' numbers are below 4000; else all is forgotten). -/
def Tr.put {α : Type} (t : Tr α) (i : Nat) (y : α) : Tr α :=
  match Nat.ble i 4000 with
  | true => t.set 13 i y
  | false => .e

theorem Tr.get_e {α : Type} (i : Nat) : (Tr.e : Tr α).get i = none := rfl
theorem Tr.set_get {α : Type} : ∀ (f : Nat) (t : Tr α) (i : Nat) (y : α), i + 1 < 2 ^ f → ∀ j, (t.set f i y).get j = if j = i then some y else t.get j
  | 0, _, i, _, h, j => by simp at h
  | f + 1, t, i, y, h, j => by
    have hb : ∀ a b : Nat, Nat.beq a b = decide (a = b) := fun a b => by
      by_cases hab : a = b
      · subst hab; simp
      · have : ¬ Nat.beq a b = true := fun h => hab (Nat.eq_of_beq_eq_true h)
        simp [hab, this]
    have hp : 2 ^ (f + 1) = 2 * 2 ^ f := by rw [Nat.pow_succ]; omega
    by_cases hi : i = 0
    · subst hi
      cases t <;> simp only [Tr.set, hb, Tr.get] <;> by_cases hj : j = 0 <;> simp [hj]
      cases decide (j % 2 = 1) <;> rfl
    · have hid : decide (i = 0) = false := by simp [hi]
      by_cases ho : i % 2 = 1
      · have ih := fun t => Tr.set_get f t (i / 2) y (by omega)
        cases t <;> simp only [Tr.set, hb, hid, ho, decide_true, Tr.get] <;> by_cases hj : j = 0
        · subst hj; simp; intro h0; omega
        · by_cases hjo : j % 2 = 1
          · simp only [hj, hjo, decide_true, decide_false, ih, Tr.get]
            by_cases hji : j = i
            · simp [hji]
            · have : ¬ j / 2 = i / 2 := by omega
              simp [hji, this]
          · have : ¬ j = i := by intro e; subst e; exact hjo ho
            simp [hj, hjo, this, Tr.get]
        · subst hj; simp; intro h0; omega
        · by_cases hjo : j % 2 = 1
          · simp only [hj, hjo, decide_true, decide_false, ih]
            by_cases hji : j = i
            · simp [hji]
            · have : ¬ j / 2 = i / 2 := by omega
              simp [hji, this]
          · have : ¬ j = i := by intro e; subst e; exact hjo ho
            simp [hj, hjo, this]
      · have ih := fun t => Tr.set_get f t (i / 2 - 1) y (by omega)
        have hod : decide (i % 2 = 1) = false := by simp [ho]
        cases t <;> simp only [Tr.set, hb, hid, hod, Tr.get] <;> by_cases hj : j = 0
        · subst hj; simp; intro h0; omega
        · by_cases hjo : j % 2 = 1
          · have : ¬ j = i := by intro e; subst e; exact ho hjo
            simp [hj, hjo, this, Tr.get]
          · have hjd : decide (j % 2 = 1) = false := by simp [hjo]
            simp only [hj, hjd, decide_false, ih, Tr.get]
            by_cases hji : j = i
            · simp [hji]
            · have : ¬ j / 2 - 1 = i / 2 - 1 := by omega
              simp [hji, this]
        · subst hj; simp; intro h0; omega
        · by_cases hjo : j % 2 = 1
          · have : ¬ j = i := by intro e; subst e; exact ho hjo
            simp [hj, hjo, this]
          · have hjd : decide (j % 2 = 1) = false := by simp [hjo]
            simp only [hj, hjd, decide_false, ih]
            by_cases hji : j = i
            · simp [hji]
            · have : ¬ j / 2 - 1 = i / 2 - 1 := by omega
              simp [hji, this]
/-- What is read of a table with one more row: that row, or what was read before. -/
theorem Tr.get_put {α : Type} (t : Tr α) (i : Nat) (y : α) (j : Nat) (x : α) (h : (t.put i y).get j = some x) : (j = i ∧ x = y) ∨ (j ≠ i ∧ t.get j = some x) := by
  unfold Tr.put at h
  split at h
  · rename_i hle
    have hi : i ≤ 4000 := Nat.le_of_ble_eq_true hle
    rw [Tr.set_get 13 t i y (by omega)] at h
    by_cases hji : j = i
    · simp [hji] at h; exact .inl ⟨hji, h.symm⟩
    · simp [hji] at h; exact .inr ⟨hji, h⟩
  · simp [Tr.get] at h

/-! ### Values -/
/-- A slice's capacity: so many, and perhaps some more (nobody knows how many). -/
structure Cap where
  n : Nat
  e : Option Nat
  deriving Inhabited
def Cap.v (c : Cap) : Nat := match c.e with | none => c.n | some x => x + c.n
inductive SV where
  | any (x : Value)
  | int (k : IntKind) (x : Int)
  | lit (k : IntKind) (x : Int)
  | bool (b : Bool)
  | blit (b : Bool)
  | str (l : List UInt8)
  | ptr (k off : Nat)
  | elt (k i sz j : Nat)
  | raw (b off : Nat)
  | nil
  | sl (k sz lo : Nat) (a : Option Addr) (len : Nat) (cap : Cap)
  | mapp (k : Nat)
  | nilmap
  | agg (cs : List SV)
  | tup (cs : List SV)
  | fn (f : Fn) (first captured : List SV)
  | ifc (t : TypeId) (x : SV)
  | undef
  deriving Inhabited

mutual
/-- The value that is meant ('ids k': the block of object k). -/
def SV.den (ids : Nat → Nat) : SV → Value
  | .any x => x
  | .int k x | .lit k x => .int k x
  | .bool t | .blit t => .bool t
  | .str l => .string ⟨l.toArray⟩
  | .ptr k off => .pointer (some ⟨ids k, off, none⟩)
  | .elt k i sz j => .pointer (some ⟨ids k, i * sz + j, none⟩)
  | .raw blk off => .pointer (some ⟨blk, off, none⟩)
  | .nil => .pointer none
  | .sl _ _ _ a len cap => .slice a len cap.v
  | .mapp k => .map (some (ids k))
  | .nilmap => .map none
  | .agg cs => .agg (SV.dens ids cs).toArray
  | .tup cs => .tuple (SV.dens ids cs).toArray
  | .fn f first captured => .func f (SV.dens ids first).toArray (SV.dens ids captured).toArray
  | .ifc t x => .iface t (x.den ids)
  | .undef => .tuple #[]
def SV.dens (ids : Nat → Nat) : List SV → List Value
  | [] => []
  | x :: r => x.den ids :: SV.dens ids r
end

/-- One cell's value. -/
def cellB : Value → Bool
  | .agg _ | .tuple _ => false
  | _ => true
def SV.one : SV → Bool
  | .agg _ | .tup _ | .undef => false
  | _ => true

mutual
/-- Objects are among the first N; what is meant by a slice lies where its object lies; what is opaque is one cell. -/
def SV.ok (N : Nat) (ids : Nat → Nat) : SV → Prop
  | .any x => cellB x = true
  | .ptr k _ | .elt k _ _ _ | .mapp k => k < N
  | .sl k sz lo a len cap => len ≤ cap.v ∧ (cap.v = 0 ∨ (k < N ∧ a = some ⟨ids k, lo * sz, none⟩))
  | .agg cs => SV.oks N ids cs ∧ cs.all SV.one = true
  | .tup cs => SV.oks N ids cs
  | .fn _ first captured => SV.oks N ids first ∧ SV.oks N ids captured
  | .ifc _ x => x.ok N ids
  | _ => True
def SV.oks (N : Nat) (ids : Nat → Nat) : List SV → Prop
  | [] => True
  | x :: r => x.ok N ids ∧ SV.oks N ids r
end

/-- A constant of one cell. -/
def cst1 : Value → SV
  | .int k n => .lit k n
  | .bool t => .blit t
  | .string s => .str s.data.toList
  | .pointer none => .nil
  | .slice none 0 0 => .sl 0 0 0 none 0 ⟨0, none⟩
  | .map none => .nilmap
  | x => .any x
def cstL : List Value → List SV
  | [] => []
  | x :: r => cst1 x :: cstL r
def cstO (x : Value) : Option SV :=
  match x with
  | .agg cs => match cs.toList.all cellB with | true => some (.agg (cstL cs.toList)) | false => none
  | .tuple _ => none
  | x => some (cst1 x)

/-! ### Objects -/
inductive SO where
  | cells (cs : List SV) (ty : TypeId)
  | row (cs : List SV) (tl : List Value) (m mx es : Nat) (fz : Nat × Nat) (fb : Nat) (ty : TypeId)
  | arr (ty sz n : Nat) (cell : Nat → Nat → SV)
  | map (es : Array MapEntry) (clock : Nat) (known : List (Option SV))
  | mapc (es : List (SV × SV × Nat)) (clock : Nat)
  | iterc (m : Option Nat) (since : Nat) (seen : List Nat) (last : Nat)
  | raw (o : Obj)
  | park (h : List (Nat × Obj))
/-- The cells of n elements. -/
def arrV (ids : Nat → Nat) (sz n : Nat) (cell : Nat → Nat → SV) : Array Value :=
  ((List.range (n * sz)).map fun x => (cell (x / sz) (x % sz)).den ids).toArray
def SO.den (ids : Nat → Nat) (b : Nat) : SO → List (Nat × Obj)
  | .cells cs ty => [(b, .cells (SV.dens ids cs).toArray ty)]
  | .row cs tl _ _ _ fz _ ty => [(b, .cells (SV.dens ids cs ++ tl).toArray ty fz)]
  | .arr ty sz n cell => if n = 0 then [] else [(b, .cells (arrV ids sz n cell) ty)]
  | .map es clock _ => [(b, .map es clock)]
  | .mapc es clock => [(b, .map (es.map fun x => ⟨x.1.den ids, x.2.1.den ids, x.2.2⟩).toArray clock)]
  | .iterc m since seen last => [(b, .mapIter (m.map ids) since seen.toArray last)]
  | .raw o => [(b, o)]
  | .park h => h
abbrev Ent := Nat × Option SO
abbrev Hp := List Ent
def Hp.ids (H : Hp) (k : Nat) : Nat := match nthO H k with | some (b, _) => b | none => 0
def Ent.den (ids : Nat → Nat) : Ent → List (Nat × Obj)
  | (b, some o) => o.den ids b
  | (_, none) => []
def denL (ids : Nat → Nat) : Hp → List (Nat × Obj)
  | [] => []
  | e :: r => e.den ids ++ denL ids r
/-- The blocks that are owned, and what they hold. -/
def Hp.den (H : Hp) : List (Nat × Obj) := denL H.ids H

def SO.ok (N : Nat) (ids : Nat → Nat) : SO → Prop
  | .cells cs _ => SV.oks N ids cs ∧ cs.all SV.one = true
  | .row cs tl m mx es fz fb _ => (SV.oks N ids cs ∧ cs.all SV.one = true) ∧ m + mx * es ≤ tl.length ∧ fz.2 ≤ fb
  | .arr _ sz n cell => ∀ i, i < n → ∀ j, j < sz → (cell i j).ok N ids ∧ (cell i j).one = true
  | .map _ _ known => ∀ x ∈ known, ∀ y, x = some y → y.ok N ids
  | .mapc es _ => ∀ x ∈ es, x.1.ok N ids ∧ x.2.1.ok N ids
  | .iterc m _ _ _ => ∀ k, m = some k → k < N
  | _ => True
def Hp.ok (H : Hp) : Prop := ∀ (k b : Nat) (o : SO), nthO H k = some (b, some o) → o.ok H.length H.ids

/-! ### Frames -/
abbrev Fr := Tr SV
inductive SItem where
  | code (c : Code)
  | blk (id : Nat)
  | loop (body : Code)
  | scope (body : Code)
  | reg (ops : Array Oper) (i : Nat) (rest : List Oper) (dec : List (Nat × Bool))
  | dreg (ops : Array Oper) (r : List Nat) (dec : List (Nat × Bool))
structure SF where
  fn : Nat
  nt : Nat
  fr : Fr
  todo : List SItem
structure St where
  H : Hp
  top : SF
  stk : List SF

/-- What is decided ahead: a test's answer; a round of a loop; which known key of a map is asked. -/
inductive Hint where
  | d (b : Bool)
  | u
  | m (i : Nat)
structure Cfg where
  P : Program
  stops : List Nat
  globs : List (Nat × Nat)

inductive SR where
  | go (st : St) (hs : List Hint) (vc : Prop) (eqs : List (SV × SV))
  | new (st : Nat → St)
  | stop
end Go.Sx

/- The symbolic executor 'Sx': what an operation yields. -/
namespace Go.Sx

def kEq : IntKind → IntKind → Bool
  | .i8, .i8 | .i16, .i16 | .i32, .i32 | .i64, .i64 | .u8, .u8 | .u16, .u16 | .u32, .u32 | .u64, .u64 => true
  | _, _ => false
def isInt : SV → Option (Bool × IntKind × Int)
  | .lit k x => some (true, k, x)
  | .int k x => some (false, k, x)
  | _ => none
def mkInt (lit : Bool) (k : IntKind) (x : Int) : SV := match lit with | true => .lit k x | false => .int k x
def mkBool (lit : Bool) (t : Bool) : SV := match lit with | true => .blit t | false => .bool t
def isBool : SV → Option (Bool × Bool)
  | .blit t => some (true, t)
  | .bool t => some (false, t)
  | _ => none

/-- An operator on two integers: what it yields, and on what condition. -/
def binI (op : BinOp) (l : Bool) (k k' : IntKind) (a b : Int) : Option (SV × Prop) :=
  match op with
  | .shl => some (mkInt l k (k.wrap (a * 2 ^ (min b.toNat k.bits))), 0 ≤ b)
  | .shr => some (mkInt l k (a.fdiv (2 ^ (min b.toNat k.bits))), 0 ≤ b)
  | op => match kEq k k' with
    | false => none
    | true => match op with
      | .add => some (mkInt l k (k.wrap (a + b)), True)
      | .sub => some (mkInt l k (k.wrap (a - b)), True)
      | .mul => some (mkInt l k (k.wrap (a * b)), True)
      | .quo => some (mkInt l k (k.wrap (a.tdiv b)), b ≠ 0)
      | .rem => some (mkInt l k (a.tmod b), b ≠ 0)
      | .and => some (mkInt l k (k.wrap (BitVec.ofInt k.bits a &&& BitVec.ofInt k.bits b).toNat), True)
      | .or => some (mkInt l k (k.wrap (BitVec.ofInt k.bits a ||| BitVec.ofInt k.bits b).toNat), True)
      | .xor => some (mkInt l k (k.wrap (BitVec.ofInt k.bits a ^^^ BitVec.ofInt k.bits b).toNat), True)
      | .eql => some (mkBool l (a == b), True)
      | .neq => some (mkBool l (a != b), True)
      | .lss => some (mkBool l (decide (a < b)), True)
      | .leq => some (mkBool l (decide (a ≤ b)), True)
      | .gtr => some (mkBool l (decide (a > b)), True)
      | .geq => some (mkBool l (decide (a ≥ b)), True)
      | _ => none
def binS (op : BinOp) (a b : List UInt8) : Option (SV × Prop) :=
  match op with
  | .add => some (.str (a ++ b), ((a.length + b.length : Nat) : Int) ≤ IntKind.i64.max)
  | .eql => some (.bool (a == b), True)
  | .neq => some (.bool (!(a == b)), True)
  | .lss => some (.bool (Op.bytesLess a b), True)
  | .leq => some (.bool (Op.bytesLess a b || (a == b)), True)
  | .gtr => some (.bool (!(Op.bytesLess a b || (a == b))), True)
  | .geq => some (.bool (!(Op.bytesLess a b)), True)
  | _ => none
/-- Is a pointer nil? -/
def nilV : Value → Bool
  | .pointer none => true
  | _ => false
def ptrV : Value → Bool
  | .pointer _ => true
  | _ => false
def eqNil : SV → Option (SV × Prop)
  | .nil => some (.blit true, True)
  | .ptr _ _ | .elt _ _ _ _ | .raw _ _ => some (.blit false, True)
  | .any x => some (.bool (nilV x), ptrV x = true)
  | _ => none
def nilM : Value → Bool
  | .map none => true
  | _ => false
def mapV : Value → Bool
  | .map _ => true
  | _ => false
def eqNilM : SV → Option (SV × Prop)
  | .nilmap => some (.blit true, True)
  | .mapp _ => some (.blit false, True)
  | .any x => some (.bool (nilM x), mapV x = true)
  | _ => none
def notB : SV → Option SV
  | .blit t => some (.blit (!t))
  | .bool t => some (.bool (!t))
  | _ => none

mutual
/-- x == y, for integers, strings, bools and structs of these. -/
def eqS (P : Program) : Nat → TypeId → SV → SV → Option Bool
  | 0, _, _, _ => none
  | d + 1, t, x, y =>
    match P.underlying t with
    | some (.int _) => match isInt x with
      | some (_, k, a) => match isInt y with
        | some (_, k', b) => match kEq k k' with | true => some (a == b) | false => none
        | none => none
      | none => none
    | some .bool => match isBool x with
      | some (_, a) => match isBool y with | some (_, b) => some (a == b) | none => none
      | none => none
    | some .string => match x with
      | .str a => match y with | .str b => some (a == b) | _ => none
      | _ => none
    | some (.struct fs) => match P.stoodInHeld t with
      | true => none
      | false => match x with
        | .agg xs => match y with
          | .agg ys => eqF P d fs.toList xs ys
          | _ => none
        | _ => none
    | _ => none
def eqF (P : Program) : Nat → List Field → List SV → List SV → Option Bool
  | _, [], _, _ => some true
  | 0, _ :: _, _, _ => none
  | d + 1, f :: fs, xs, ys =>
    match String.decEq f.name "_" with
    | .isTrue _ => none
    | .isFalse _ => match partS P f.type xs f.offset with
      | some x => match partS P f.type ys f.offset with
        | some y => match eqS P d f.type x y with
          | some r => match eqF P d fs xs ys with
            | some r' => some (r && r')
            | none => none
          | none => none
        | none => none
      | none => none
/-- A field's value, out of a struct's cells. -/
def partS (P : Program) (t : TypeId) (cs : List SV) (off : Nat) : Option SV :=
  match P.underlying t with
  | some (.struct _) | some (.array _ _) => match sub cs off (P.cellsOf t) with | some l => some (.agg l) | none => none
  | some _ => nthO cs off
  | none => none
end
end Go.Sx

/- The symbolic executor 'Sx': operations, steps. -/
namespace Go.Sx

def globK (H : Hp) (g : Nat) : List (Nat × Nat) → Option SV
  | [] => none
  | (g', k) :: r => match Nat.beq g' g with
    | true => match nthO H k with
      | some (blk, _) => match Nat.beq blk g with | true => some (.ptr k 0) | false => none
      | none => none
    | false => globK H g r
def opv (gl : List (Nat × Nat)) (H : Hp) (fr : Fr) : Operand → Option SV
  | .tmp t => fr.get t
  | .const x => cstO x
  | .global g => globK H g gl
  | .func g => some (.fn (.func g) [] [])
def opvs (gl : List (Nat × Nat)) (H : Hp) (fr : Fr) : List Operand → Option (List SV)
  | [] => some []
  | x :: r => match opv gl H fr x with
    | some v => match opvs gl H fr r with | some l => some (v :: l) | none => none
    | none => none
def svCells (x : SV) : Option (List SV) :=
  match x with
  | .agg cs => some cs
  | x => match x.one with | true => some [x] | false => none
def isAggT (P : Program) (t : TypeId) : Option Bool :=
  match P.underlying t with
  | some (.struct _) | some (.array _ _) => some true
  | some _ => some false
  | none => none
def zeroT (P : Program) (t : TypeId) : Option (List SV) :=
  match P.info? t with
  | some i => match i.zero with
    | some z => match cstO z with
      | some x => svCells x
      | none => none
    | none => none
  | none => none
/-- The field's place among a struct's cells, and its size. -/
def fieldT (P : Program) (t : TypeId) (i : Nat) : Option (Nat × Nat × TypeId) :=
  match P.underlying t with
  | some (.struct fs) => match fs.toList[i]? with
    | some f => match P.info? f.type with
      | some info => some (f.offset, info.size, f.type)
      | none => none
    | none => none
  | _ => none
def placeT (P : Program) (fs : List Field) (i : Nat) : Option (Nat × Nat) :=
  match nthO fs i with
  | some f => some (f.offset, P.cellsOf f.type)
  | none => none
def decB (dec : List (Nat × Bool)) (t : Nat) : Option Bool :=
  match dec with
  | [] => none
  | (t', x) :: r => match Nat.beq t' t with | true => some x | false => decB r t
def seqs {α : Type} : List (Option α) → Option (List α)
  | [] => some []
  | some x :: r => match seqs r with | some l => some (x :: l) | none => none
  | none :: _ => none
/-- Cells j .. j + n - 1 of an element. -/
def cellsOf (cell : Nat → SV) (j : Nat) : Nat → List SV
  | 0 => []
  | n + 1 => cell j :: cellsOf cell (j + 1) n

def loadCs (P : Program) (t : TypeId) (agg : Bool) (cs : List SV) (off : Nat) : Option (SV × Prop) :=
  match agg with
  | true => match sub cs off (P.cellsOf t) with | some l => some (.agg l, True) | none => none
  | false => match nthO cs off with | some v => some (v, True) | none => none
def loadArr (P : Program) (t : TypeId) (agg : Bool) (sz n : Nat) (cell : Nat → Nat → SV) (i j : Nat) : Option (SV × Prop) :=
  match agg with
  | true => match Nat.ble (j + P.cellsOf t) sz with
    | true => some (.agg (cellsOf (cell i) j (P.cellsOf t)), i < n)
    | false => none
  | false => match Nat.ble (j + 1) sz with | true => some (cell i j, i < n) | false => none
def loadQ (P : Program) (H : Hp) (t : TypeId) (x : SV) : Option (SV × Prop) :=
  match isAggT P t with
  | none => none
  | some agg => match x with
    | .ptr k off => match nthO H k with
      | some (_, some o) => match o with
        | .cells cs _ => loadCs P t agg cs off
        | .row cs _ _ _ _ _ _ _ => loadCs P t agg cs off
        | _ => none
      | _ => none
    | .elt k i sz j => match nthO H k with
      | some (_, some o) => match o with
        | .arr _ sz' n cell => match Nat.beq sz sz' with
          | true => loadArr P t agg sz' n cell i j
          | false => none
        | .cells cs _ => loadCs P t agg cs (i * sz + j)
        | .row cs _ _ _ _ _ _ _ => loadCs P t agg cs (i * sz + j)
        | _ => none
      | _ => none
    | _ => none

def buildP (P : Program) (gl : List (Nat × Nat)) (H : Hp) (fr : Fr) (place : Nat → Option (Nat × Nat)) : List SV → List (Nat × Operand) → Option (List SV)
  | cs, [] => some cs
  | cs, (i, x) :: r => match place i with
    | some (off, size) => match opv gl H fr x with
      | some v => match svCells v with
        | some l => match Nat.beq l.length size with
          | true => match over cs off l with
            | some cs' => buildP P gl H fr place cs' r
            | none => none
          | false => none
        | none => none
      | none => none
    | none => none

def foldMin (k : IntKind) (l : Bool) (x : Int) : List SV → Option SV
  | [] => some (mkInt l k x)
  | y :: r => match isInt y with
    | some (l', _, y) => foldMin k (l && l') (if y < x then y else x) r
    | none => none
def foldMax (k : IntKind) (l : Bool) (x : Int) : List SV → Option SV
  | [] => some (mkInt l k x)
  | y :: r => match isInt y with
    | some (l', _, y) => foldMax k (l && l') (if y > x then y else x) r
    | none => none

def neg1 (r : Option (SV × Prop)) : Option (SV × Prop) :=
  match r with
  | some (r, vc) => match notB r with
    | some r => some (r, vc)
    | none => none
  | none => none
/-- x == y, for what isn't two numbers or two texts. -/
def eqQ (P : Program) (t : TypeId) (x y : SV) : Option (SV × Prop) :=
  match P.underlying t with
  | some (.pointer _) => match y with
    | .nil => eqNil x
    | _ => match x with
      | .nil => eqNil y
      | _ => none
  | some (.map _ _) => match y with
    | .nilmap => eqNilM x
    | _ => none
  | some (.slice _) => match y with
    | .sl _ _ _ none _ _ => match x with
      | .sl _ _ _ a _ _ => some (.blit (match a with | none => true | some _ => false), True)
      | _ => none
    | _ => none
  | _ => match P.eqGuardType P.depth t with
    | true => none
    | false => match eqS P 30 t x y with
      | some r => some (.bool r, True)
      | none => none
def binQ (P : Program) (op : BinOp) (t : TypeId) (x y : SV) : Option (SV × Prop) :=
  match isInt x with
  | some (l, k, a) => match isInt y with
    | some (l', k', b) => binI op (l && l') k k' a b
    | none => none
  | none => match x with
    | .str a => match y with
      | .str b => binS op a b
      | _ => none
    | _ => match op with
      | .eql => eqQ P t x y
      | .neq => neg1 (eqQ P t x y)
      | _ => none

def optI (gl : List (Nat × Nat)) (H : Hp) (fr : Fr) (d : Int) : Option Operand → Option Int
  | none => some d
  | some x => match opv gl H fr x with
    | some v => match isInt v with | some (_, _, a) => some a | none => none
    | none => none

def capZ (c : Cap) : Bool :=
  match c.e with
  | none => Nat.beq c.n 0
  | some _ => false
/-- What is left of a capacity behind the first a elements (m: what it is cut to, if it is). -/
def capSub (c : Cap) (whole : Bool) (a m : Nat) : Option Cap :=
  match whole with
  | false => some ⟨m - a, none⟩
  | true => match c.e with
    | none => some ⟨c.n - a, none⟩
    | some x => match Nat.ble a c.n with
      | true => some ⟨c.n - a, some x⟩
      | false => none
/-- What a key is in a map: its value, or nothing. -/
def LookP (P : Program) (kt : TypeId) (k : Value) (es : Array MapEntry) (r : Option Value) : Prop :=
  (∀ q w, (Instr.checkKey q 10000 kt k).run P w = .ok () w) ∧ ∀ w, ∃ o, (Instr.findKey kt k es.toList).run P w = .ok o w ∧ o.map (·.2) = r
def zeroV (P : Program) (t : TypeId) : Option SV :=
  match P.info? t with
  | some i => match i.zero with
    | some z => cstO z
    | none => none
  | none => none
def foundV (P : Program) (e : TypeId) (ok : Bool) (r : Option SV) : Option SV :=
  match r with
  | some v => some (match ok with | true => .tup [v, .blit true] | false => v)
  | none => match zeroV P e with
    | some z => some (match ok with | true => .tup [z, .blit false] | false => z)
    | none => none
/-- Are two pointers the same? none: not served. -/
def liveB (H : Hp) (k : Nat) : Bool :=
  match nthO H k with
  | some (_, some (.cells _ _)) => true
  | _ => false
def ptrQ (P : Program) (H : Hp) (t : TypeId) (x y : SV) : Option Bool :=
  match x with
  | .ptr k o => match y with
    | .ptr k' o' => match P.underlying t with
      | some (.pointer e) => match (P.underlying e).isSome && !Nat.beq (P.cellsOf e) 0 with
       | false => none
       | true => match Nat.beq k k' with
        | true => some (Nat.beq o o')
        | false => match liveB H k && liveB H k' with
          | true => some false
          | false => none
      | _ => none
    | _ => none
  | _ => none
/-- A key among a map's: its place, and its value. -/
def findC (P : Program) (kt : TypeId) (key : SV) : List (SV × SV × Nat) → Nat → Option (Option (Nat × SV))
  | [], _ => some none
  | (k, v, _) :: r, i => match eqS P 30 kt key k with
    | some true => some (some (i, v))
    | some false => findC P kt key r (i + 1)
    | none => none
/-- Kinds of keys that are served: whole numbers, texts, structs of these. -/
def plainT (P : Program) (t : TypeId) : Bool :=
  match P.underlying t with
  | some (.int _) | some .string | some .bool => true
  | _ => false
def ckT (P : Program) (kt : TypeId) (key : SV) : Bool :=
  match P.underlying kt with
  | some (.struct fs) => match key with
    | .agg xs => fs.toList.all fun f => plainT P f.type && (partS P f.type xs f.offset).isSome
    | _ => false
  | _ => plainT P kt
def qMove (P : Program) (gl : List (Nat × Nat)) (H : Hp) (fr : Fr) (dec : List (Nat × Bool)) (hm : Nat) (x : Operand) : Option (SV × Prop) :=
  match opv gl H fr x with | some v => some (v, True) | none => none
def qPick (P : Program) (gl : List (Nat × Nat)) (H : Hp) (fr : Fr) (dec : List (Nat × Bool)) (hm : Nat) (c a b : Operand) : Option (SV × Prop) :=
    let go (t : Bool) : Option (SV × Prop) := match opv gl H fr (match t with | true => a | false => b) with | some v => some (v, True) | none => none
    match (match c with | .tmp t => decB dec t | _ => none) with
    | some t => go t
    | none => match opv gl H fr c with
      | some (.blit t) => go t
      | _ => none
def qBuild (P : Program) (gl : List (Nat × Nat)) (H : Hp) (fr : Fr) (dec : List (Nat × Bool)) (hm : Nat) (t : TypeId) (ps : Array (Nat × Operand)) : Option (SV × Prop) :=
  match zeroT P t with
    | some z => match P.underlying t with
      | some (.struct fs) => match fs.toList.all (fun f => (P.info? f.type).isSome) with
        | true => match buildP P gl H fr (placeT P fs.toList) z ps.toList with
          | some cs => some (.agg cs, True)
          | none => none
        | false => none
      | some (.array _ e) => match P.underlying e with
        | some _ => match buildP P gl H fr (fun i => some (i * P.cellsOf e, P.cellsOf e)) z ps.toList with
          | some cs => some (.agg cs, True)
          | none => none
        | none => none
      | _ => none
    | none => none
def qField (P : Program) (gl : List (Nat × Nat)) (H : Hp) (fr : Fr) (dec : List (Nat × Bool)) (hm : Nat) (t : TypeId) (x : Operand) (i : Nat) : Option (SV × Prop) :=
  match opv gl H fr x with
    | some (.agg cs) => match fieldT P t i with
      | some (off, _, ft) => match partS P ft cs off with | some v => some (v, True) | none => none
      | none => none
    | _ => none
def qFieldAddr (P : Program) (gl : List (Nat × Nat)) (H : Hp) (fr : Fr) (dec : List (Nat × Bool)) (hm : Nat) (t : TypeId) (x : Operand) (i : Nat) : Option (SV × Prop) :=
  match fieldT P t i with
    | some (off, size, _) => match Nat.beq size 0 with
      | true => none
      | false => match opv gl H fr x with
        | some (.ptr k o) => some (.ptr k (o + off), True)
        | some (.elt k e sz j) => some (.elt k e sz (j + off), True)
        | some (.raw blk o) => some (.raw blk (o + off), True)
        | _ => none
    | none => none
def qIndexAddr (P : Program) (gl : List (Nat × Nat)) (H : Hp) (fr : Fr) (dec : List (Nat × Bool)) (hm : Nat) (t : TypeId) (x i : Operand) : Option (SV × Prop) :=
  match opv gl H fr i with
    | some iv => match isInt iv with
      | some (_, _, a) => match P.underlying t with
        | some (.array len e) => match P.underlying e with
          | none => none
          | some _ => match opv gl H fr x with
            | some (.ptr k 0) => some (.elt k a.toNat (P.cellsOf e) 0, 0 ≤ a ∧ a < len)
            | _ => none
        | some (.slice e) => match P.underlying e with
          | none => none
          | some _ => match opv gl H fr x with
            | some (.sl k sz lo _ len _) => match Nat.beq sz (P.cellsOf e) with
              | true => some (.elt k (lo + a.toNat) sz 0, 0 ≤ a ∧ a < len)
              | false => none
            | _ => none
        | _ => none
      | none => none
    | none => none
def qIndex (P : Program) (gl : List (Nat × Nat)) (H : Hp) (fr : Fr) (dec : List (Nat × Bool)) (hm : Nat) (t : TypeId) (x i : Operand) : Option (SV × Prop) :=
  match opv gl H fr i with
    | some iv => match isInt iv with
      | some (_, _, a) => match P.underlying t with
        | some .string => match opv gl H fr x with
          | some (.str l) => some (.int .u8 (l.getD a.toNat 0).toNat, 0 ≤ a ∧ a < l.length)
          | _ => none
        | _ => none
      | none => none
    | none => none
def qSlice (P : Program) (gl : List (Nat × Nat)) (H : Hp) (fr : Fr) (dec : List (Nat × Bool)) (hm : Nat) (t : TypeId) (x : Operand) (lo hi mx : Option Operand) : Option (SV × Prop) :=
  match P.underlying t with
    | some .string => match mx with
      | none => match opv gl H fr x with
        | some (.str l) => match optI gl H fr 0 lo with
          | some a => match optI gl H fr l.length hi with
            | some c => some (.str ((l.drop a.toNat).take (c.toNat - a.toNat)), 0 ≤ a ∧ a ≤ c ∧ c ≤ l.length)
            | none => none
          | none => none
        | _ => none
      | some _ => none
    | some (.slice e) => match opv gl H fr x with
      | some (.sl k sz f ad len cap) => match (Nat.beq sz (P.cellsOf e) || capZ cap) && (P.underlying e).isSome with
        | true => match optI gl H fr cap.v mx with
          | some m => match optI gl H fr len hi with
            | some h => match optI gl H fr 0 lo with
              | some a => match mx.isSome && hi.isNone with
                | true => none
                | false => match capSub cap mx.isNone a.toNat m.toNat with
                  | some c => some (.sl k (P.cellsOf e) (f + a.toNat) (ad.map fun p => if m.toNat = a.toNat then p else p.add (a.toNat * P.cellsOf e)) (h.toNat - a.toNat) c, 0 ≤ a ∧ a ≤ h ∧ h ≤ m ∧ m ≤ cap.v)
                  | none => none
              | none => none
            | none => none
          | none => none
        | false => none
      | _ => none
    | _ => none
def qLoad (P : Program) (gl : List (Nat × Nat)) (H : Hp) (fr : Fr) (dec : List (Nat × Bool)) (hm : Nat) (t : TypeId) (x : Operand) : Option (SV × Prop) :=
  match opv gl H fr x with | some v => loadQ P H t v | none => none
def qNilCheck (P : Program) (gl : List (Nat × Nat)) (H : Hp) (fr : Fr) (dec : List (Nat × Bool)) (hm : Nat) (x : Operand) : Option (SV × Prop) :=
  match opv gl H fr x with
    | some (.ptr k o) => some (.ptr k o, True)
    | some (.elt k i sz j) => some (.elt k i sz j, True)
    | some (.raw blk o) => some (.raw blk o, True)
    | some (.fn (.func g) l c) => some (.fn (.func g) l c, True)
    | _ => none
def qBinOp (P : Program) (gl : List (Nat × Nat)) (H : Hp) (fr : Fr) (dec : List (Nat × Bool)) (hm : Nat) (o : BinOp) (t : TypeId) (x y : Operand) : Option (SV × Prop) :=
  match opv gl H fr x with
    | some a => match opv gl H fr y with
      | some b => match ptrQ P H t a b with
        | some r => match o with
          | .eql => some (.blit r, True)
          | .neq => some (.blit (!r), True)
          | _ => none
        | none => binQ P o t a b
      | none => none
    | none => none
def qUnOp (P : Program) (gl : List (Nat × Nat)) (H : Hp) (fr : Fr) (dec : List (Nat × Bool)) (hm : Nat) (o : UnOp) (x : Operand) : Option (SV × Prop) :=
  match opv gl H fr x with
    | some v => match o with
      | .not => match notB v with | some r => some (r, True) | none => none
      | .neg => match isInt v with | some (l, k, a) => some (mkInt l k (k.wrap (0 - a)), True) | none => none
      | .xor => match isInt v with
        | some (l, k, a) => some (mkInt l k (k.wrap (BitVec.ofInt k.bits (if k.signed then -1 else k.max) ^^^ BitVec.ofInt k.bits a).toNat), True)
        | none => none
      | _ => none
    | none => none
def qConvert (P : Program) (gl : List (Nat × Nat)) (H : Hp) (fr : Fr) (dec : List (Nat × Bool)) (hm : Nat) (s d : TypeId) (x : Operand) : Option (SV × Prop) :=
  match opv gl H fr x with
    | some v => match P.underlying s with
      | none => none
      | some _ => match P.underlying d with
        | some (.int k) => match isInt v with | some (l, _, a) => some (mkInt l k (k.wrap a), True) | none => none
        | some .string => match v with | .str l => some (.str l, True) | _ => none
        | _ => none
    | none => none
def qMakeInterface (P : Program) (gl : List (Nat × Nat)) (H : Hp) (fr : Fr) (dec : List (Nat × Bool)) (hm : Nat) (t : TypeId) (x : Operand) : Option (SV × Prop) :=
  match P.underlying t with
    | some (.interface _) => none
    | some _ => match opv gl H fr x with | some v => some (.ifc t v, True) | none => none
    | none => none
def qMakeFunc (P : Program) (gl : List (Nat × Nat)) (H : Hp) (fr : Fr) (dec : List (Nat × Bool)) (hm : Nat) (f : Fn) (l c : Array Operand) : Option (SV × Prop) :=
  match opvs gl H fr l.toList with
    | some l => match opvs gl H fr c.toList with
      | some c => some (.fn f l c, True)
      | none => none
    | none => none
def qExtract (P : Program) (gl : List (Nat × Nat)) (H : Hp) (fr : Fr) (dec : List (Nat × Bool)) (hm : Nat) (x : Operand) (i : Nat) : Option (SV × Prop) :=
  match opv gl H fr x with
    | some (.tup l) => match nthO l i with | some v => some (v, True) | none => none
    | _ => none
def qLookup (P : Program) (gl : List (Nat × Nat)) (H : Hp) (fr : Fr) (dec : List (Nat × Bool)) (hm : Nat) (t : TypeId) (x ix : Operand) (ok : Bool) : Option (SV × Prop) :=
  match P.underlying t with
    | some (.map kt e) => match opv gl H fr ix with
      | some key => match opv gl H fr x with
        | some (.mapp k) => match nthO H k with
          | some (_, some (.map es _ known)) => match nthO known hm with
            | some r => match foundV P e ok r with
              | some v => some (v, LookP P kt (key.den H.ids) es (r.map (SV.den H.ids)))
              | none => none
            | none => none
          | some (_, some (.mapc es _)) => match ckT P kt key with
            | true => match findC P kt key es 0 with
              | some r => match foundV P e ok (r.map (·.2)) with
                | some v => some (v, True)
                | none => none
              | none => none
            | false => none
          | _ => none
        | some .nilmap => match foundV P e ok none with
          | some v => some (v, LookP P kt (key.den H.ids) #[] none)
          | none => none
        | _ => none
      | none => none
    | _ => none
def qCall (P : Program) (gl : List (Nat × Nat)) (H : Hp) (fr : Fr) (dec : List (Nat × Bool)) (hm : Nat) (c : Call) : Option (SV × Prop) :=
  match c.callee with
    | .builtin bi => match opvs gl H fr c.args.toList with
      | some l => match bi with
        | .len => match c.argTypes.toList with
          | t :: _ => match P.underlying t with
            | some .string => match l with | [.str s] => some (.int .i64 s.length, True) | _ => none
            | some (.slice _) => match l with | [.sl _ _ _ _ n _] => some (.int .i64 n, True) | _ => none
            | some (.map _ _) => match l with
              | [.mapp k] => match nthO H k with
                | some (_, some (.map es _ _)) => some (.int .i64 es.size, True)
                | some (_, some (.mapc es _)) => some (.int .i64 es.length, True)
                | _ => none
              | [.nilmap] => some (.lit .i64 0, True)
              | _ => none
            | some (.array n _) => match l with | [_] => some (.lit .i64 n, True) | _ => none
            | _ => none
          | [] => none
        | .cap => match c.argTypes.toList with
          | t :: _ => match P.underlying t with
            | some (.slice _) => match l with | [.sl _ _ _ _ _ n] => some (.int .i64 n.v, True) | _ => none
            | _ => none
          | [] => none
        | .min => match l with
          | x :: r => match isInt x with
            | some (li, k, a) => match foldMin k li a r with | some v => some (v, True) | none => none
            | none => none
          | [] => none
        | .max => match l with
          | x :: r => match isInt x with
            | some (li, k, a) => match foldMax k li a r with | some v => some (v, True) | none => none
            | none => none
          | [] => none
        | _ => none
      | none => none
    | _ => none
/-- What an operation yields that leaves the memory alone. -/
def qeval (P : Program) (gl : List (Nat × Nat)) (H : Hp) (fr : Fr) (dec : List (Nat × Bool)) (hm : Nat) (op : Op) : Option (SV × Prop) :=
  match op with
  | .move x | .assign x => qMove P gl H fr dec hm x
  | .pick c a b => qPick P gl H fr dec hm c a b
  | .build t ps => qBuild P gl H fr dec hm t ps
  | .field t x i => qField P gl H fr dec hm t x i
  | .fieldAddr t x i => qFieldAddr P gl H fr dec hm t x i
  | .indexAddr t x i => qIndexAddr P gl H fr dec hm t x i
  | .index t x i => qIndex P gl H fr dec hm t x i
  | .slice t x lo hi mx => qSlice P gl H fr dec hm t x lo hi mx
  | .load t x => qLoad P gl H fr dec hm t x
  | .nilCheck x => qNilCheck P gl H fr dec hm x
  | .binOp o t x y _ => qBinOp P gl H fr dec hm o t x y
  | .unOp o _ x => qUnOp P gl H fr dec hm o x
  | .convert s d x => qConvert P gl H fr dec hm s d x
  | .makeInterface t x => qMakeInterface P gl H fr dec hm t x
  | .makeFunc f l c => qMakeFunc P gl H fr dec hm f l c
  | .extract x i => qExtract P gl H fr dec hm x i
  | .lookup t x ix ok => qLookup P gl H fr dec hm t x ix ok
  | .call c => qCall P gl H fr dec hm c
  | _ => none

/-- What an operation makes: the new object, and the value (a: its block; k: its number). -/
def aeval (P : Program) (gl : List (Nat × Nat)) (H : Hp) (fr : Fr) (op : Op) : Option (SO × (Nat → Nat → SV)) :=
  match op with
  | .alloc t => match zeroT P t with | some z => some (.cells z t, fun k _ => .ptr k 0) | none => none
  | .box t x => match opv gl H fr x with
    | some v => match svCells v with | some l => some (.cells l t, fun k _ => .ptr k 0) | none => none
    | none => none
  | .buildSlice t len ps => match P.underlying t with
    | some (.slice e) => match zeroT P e with
      | some z => match Nat.ble (len * P.cellsOf e) 10000 && (P.underlying e).isSome with
        | true => match Nat.beq z.length (P.cellsOf e) with
          | true => match buildP P gl H fr (fun i => some (i * P.cellsOf e, P.cellsOf e)) (List.replicate len z).flatten ps.toList with
            | some cs => some (.cells cs e, fun k a => .sl k (P.cellsOf e) 0 (some ⟨a, 0, none⟩) len ⟨len, none⟩)
            | none => none
          | false => none
        | false => none
      | none => none
    | _ => none
  | .makeMap _ none => some (.mapc [] 0, fun k _ => .mapp k)
  | _ => none

/-- Cells laid over an element's. -/
def overC (cell : Nat → Nat → SV) (i j : Nat) (l : List SV) : Nat → Nat → SV :=
  fun i' j' => if i' = i then (if j ≤ j' then (match nthO l (j' - j) with | some z => z | none => cell i' j') else cell i' j') else cell i' j'
def storeH (H : Hp) (a : SV) (l : List SV) : Option (Hp × Prop) :=
  match a with
  | .ptr k off => match nthO H k with
    | some (blk, some o) => match o with
      | .cells cs ty => match over cs off l with
        | some cs' => some (updL H k (blk, some (.cells cs' ty)), True)
        | none => none
      | .row cs tl m mx es fz fb ty => match Nat.ble fb off with
        | true => match over cs off l with
          | some cs' => some (updL H k (blk, some (.row cs' tl m mx es fz fb ty)), True)
          | none => none
        | false => none
      | _ => none
    | _ => none
  | .elt k i sz j => match nthO H k with
    | some (blk, some o) => match o with
      | .cells cs ty => match over cs (i * sz + j) l with
        | some cs' => some (updL H k (blk, some (.cells cs' ty)), True)
        | none => none
      | .row cs tl m mx es fz fb ty => match Nat.ble fb (i * sz + j) with
        | true => match over cs (i * sz + j) l with
          | some cs' => some (updL H k (blk, some (.row cs' tl m mx es fz fb ty)), True)
          | none => none
        | false => none
      | .arr ty sz' n cell => match Nat.beq sz sz' && Nat.ble (j + l.length) sz' with
        | true => some (updL H k (blk, some (.arr ty sz' n (overC cell i j l))), i < n)
        | false => none
      | _ => none
    | _ => none
  | _ => none
/-- What a store makes of the objects. -/
def seval (P : Program) (gl : List (Nat × Nat)) (H : Hp) (fr : Fr) (op : Op) : Option (Hp × Prop) :=
  match op with
  | .store t x y => match opv gl H fr x with
    | some a => match opv gl H fr y with
      | some v => match svCells v with
        | some l => match Nat.beq l.length (P.cellsOf t) && (P.underlying t).isSome with
          | true => storeH H a l
          | false => none
        | none => none
      | none => none
    | none => none
  | _ => none

/-- Which function is called, with what. -/
def ceval (gl : List (Nat × Nat)) (H : Hp) (fr : Fr) (op : Op) : Option (Nat × List SV) :=
  match op with
  | .call c => match c.callee with
    | .value x => match opv gl H fr x with
      | some (.fn (.func g) l cap) => match opvs gl H fr c.args.toList with
        | some args => some (g, l ++ args ++ cap)
        | none => none
      | _ => none
    | _ => none
  | _ => none
end Go.Sx

/- The symbolic executor 'Sx': steps, runs. -/
namespace Go.Sx

/-! ### Regions whose order is drawn -/
def maskOf : List Nat → Nat
  | [] => 0
  | i :: r => Nat.lor (Nat.shiftLeft 1 i) (maskOf r)
def depsOf (o : Oper) : List Nat := (o.after.toList.filter (Region.binds .any)).map (·.on)
/-- No operation of a list is ahead of it. -/
def readyB (o : Oper) (r : List Nat) : Bool := Nat.beq (Nat.land (maskOf (depsOf o)) (maskOf r)) 0
def hasB (l : List Nat) (i : Nat) : Bool := !Nat.beq (Nat.land (maskOf l) (Nat.shiftLeft 1 i)) 0
/-- 0: it leaves the memory alone; 1: it makes an object; 2: all else. -/
def clsOf (P : Program) (o : Oper) : Nat :=
  match o.op with
  | .move _ | .pick .. | .build .. | .field .. | .fieldAddr .. | .indexAddr .. | .index .. | .load .. | .nilCheck _ | .binOp .. | .unOp ..
  | .makeInterface .. | .makeFunc .. | .extract .. | .slice .. | .lookup .. => 0
  | .convert _ d _ => match P.underlying d with | some (.int _) => 0 | _ => 2
  | .call c => match c.callee with | .builtin .len | .builtin .cap | .builtin .min | .builtin .max => 0 | _ => 2
  | .alloc _ | .box .. | .buildSlice .. | .makeMap .. => 1
  | _ => 2
def opTmps : List Operand → List Nat
  | [] => []
  | .tmp t :: r => t :: opTmps r
  | _ :: r => opTmps r
def guardT (ops : List Oper) (o : Oper) : Option (Nat × Bool) :=
  match o.guard with
  | none => none
  | some (j, want) => match nthO ops j with
    | some g => match g.dst with | some t => some (t, want) | none => none
    | none => none
def readsOf (ops : List Oper) (o : Oper) : List Nat :=
  opTmps o.op.operands.toList ++ (match guardT ops o with | some (t, _) => [t] | none => [])
def pickFrom (P : Program) (ops : List Oper) (c : Nat) (all : List Nat) : List Nat → Option Nat
  | [] => none
  | i :: r => match nthO ops i with
    | some o => match Nat.beq (clsOf P o) c with
      | true => match readyB o all with | true => some i | false => pickFrom P ops c all r
      | false => pickFrom P ops c all r
    | none => none
def dropOne (i : Nat) : List Nat → List Nat
  | [] => []
  | j :: r => match Nat.beq i j with | true => r | false => j :: dropOne i r
/-- An order: what leaves the memory alone as soon as may be; objects are made as late as may be. -/
def order (P : Program) (ops : List Oper) : Nat → List Nat → List Nat
  | 0, _ => []
  | f + 1, l => match (match pickFrom P ops 0 l l with
      | some i => some i
      | none => match pickFrom P ops 2 l l with
        | some i => some i
        | none => pickFrom P ops 1 l l) with
    | some i => i :: order P ops f (dropOne i l)
    | none => []
/-- Which of a list wait for what is in the mask (in an order in which each stands behind what it waits for). -/
def waitsB (ops : List Oper) : Nat → List Nat → Nat
  | m, [] => m
  | m, j :: r => match nthO ops j with
    | some o => match Nat.beq (Nat.land (maskOf (depsOf o)) m) 0 with
      | true => waitsB ops m r
      | false => waitsB ops (Nat.lor (Nat.shiftLeft 1 j) m) r
    | none => waitsB ops m r
/-- All that come behind x wait for it, or make objects and wait for nothing that hasn't come. -/
def freeB (P : Program) (ops : List Oper) (all : List Nat) (w : Nat) : List Nat → Bool
  | [] => true
  | j :: r => match nthO ops j with
    | some o => ((!Nat.beq (Nat.land w (Nat.shiftLeft 1 j)) 0) || (Nat.beq (clsOf P o) 1 && readyB o all && o.guard.isNone)) && freeB P ops all w r
    | none => false
def orderB (P : Program) (ops : List Oper) : List Nat → Bool
  | [] => true
  | i :: r => match nthO ops i with
    | some o => readyB o (i :: r) && (match Nat.beq (clsOf P o) 0 with
      | true => true
      | false => freeB P ops (i :: r) (waitsB ops (Nat.shiftLeft 1 i) r) r) && orderB P ops r
    | none => false
def memB (t : Nat) : List Nat → Bool
  | [] => false
  | u :: r => match Nat.beq t u with | true => true | false => memB t r
/-- What writes a slot is the only one; who reads it stands behind it (or, where it is loud, ahead of it). -/
def ssaOne (P : Program) (ops : List Oper) (i : Nat) (o : Oper) (t : Nat) : Nat → List Oper → Bool
  | _, [] => true
  | j, q :: r => (match Nat.beq i j with
      | true => !memB t (readsOf ops o)
      | false => (match q.dst with | some t' => !Nat.beq t t' | none => true) &&
        (match memB t (readsOf ops q) with
          | true => hasB (depsOf q) i || (Nat.beq (clsOf P o) 2 && hasB (depsOf o) j)
          | false => true)) && ssaOne P ops i o t (j + 1) r
def ssaB (P : Program) (ops : List Oper) : Nat → List Oper → Bool
  | _, [] => true
  | i, o :: r => (match o.dst with | some t => ssaOne P ops i o t 0 ops | none => true) && ssaB P ops (i + 1) r
def backB : Nat → List Oper → Bool
  | _, [] => true
  | i, o :: r => (depsOf o).all (fun d => Nat.blt d i) && (match o.guard with | none => true | some (j, _) => hasB (depsOf o) j) && backB (i + 1) r
def selB : List Oper → Bool
  | [] => true
  | o :: r => (match o.op with | .select .. => false | _ => true) && selB r
/-- The order of a region that draws it; none: this one isn't served. -/
def canon (P : Program) (ops : List Oper) : Option (List Nat) :=
  let all := List.range ops.length
  let r := order P ops ops.length all
  match Nat.beq r.length ops.length && Nat.beq (maskOf r) (maskOf all) && backB 0 ops && ssaB P ops 0 ops && orderB P ops r && selB ops with
  | true => some r
  | false => none

/-! ### Steps -/
/-- Is an operation meant to be carried out? none: that isn't decided yet. -/
def guardQ (ops : List Oper) (fr : Fr) (dec : List (Nat × Bool)) (o : Oper) : Option Bool :=
  match o.guard with
  | none => some true
  | some _ => match guardT ops o with
    | none => none
    | some (t, want) => match decB dec t with
      | some x => some (x == want)
      | none => match fr.get t with
        | some (.blit x) => some (x == want)
        | some .undef => some false
        | _ => none
/-- A slot gets a value. -/
def putD (fr : Fr) (nt : Nat) (d : Option Nat) (v : SV) : Fr :=
  match d with
  | some t => match Nat.ble (t + 1) nt with | true => fr.put t v | false => .e
  | none => fr
def decDel (t : Nat) : List (Nat × Bool) → List (Nat × Bool)
  | [] => []
  | (t', q) :: r => match Nat.beq t' t with | true => decDel t r | false => (t', q) :: decDel t r
/-- What stays decided where a slot is written. -/
def decPut (dec : List (Nat × Bool)) (nt : Nat) (d : Option Nat) : List (Nat × Bool) :=
  match d with
  | none => dec
  | some t => match Nat.ble (t + 1) nt && Nat.ble t 4000 with | true => decDel t dec | false => []
/-- May a slot be written in a region that draws its order? -/
def putB (nt : Nat) (d : Option Nat) : Bool :=
  match d with
  | some t => Nat.ble (t + 1) nt && Nat.ble t 4000
  | none => true
/-- Behind a loud operation x: what quiet ones that may not have come yet yield now. -/
def recheck (P : Program) (gl : List (Nat × Nat)) (H : Hp) (nt : Nat) (fr : Fr) (ops : List Oper) (dec : List (Nat × Bool)) (x : Nat) (deps : List Nat) (r : List Nat) : Nat → List Oper → Option (Prop × List (SV × SV))
  | _, [] => some (True, [])
  | j, o :: rest => match recheck P gl H nt fr ops dec x deps r (j + 1) rest with
    | none => none
    | some (vc, eqs) => match hasB deps j || hasB (x :: r) j with
      | true => some (vc, eqs)
      | false => match Nat.beq (clsOf P o) 0 with
        | false => some (vc, eqs)
        | true => match o.dst with
          | none => none
          | some t => match Nat.ble (t + 1) nt with
           | false => none
           | true => match fr.get t with
            | none => none
            | some v' => match guardQ ops fr dec o with
              | none => none
              | some false => match v' with
                | .undef => some (vc, eqs)
                | _ => none
              | some true => match qeval P gl H fr dec 0 o.op with
                | some (v, vc') => some (vc' ∧ vc, (v, v') :: eqs)
                | none => none

/-- The caller's frame, behind a call that handed a value back. -/
def resume (C : Cfg) (H : Hp) (f : SF) (v : SV) : Option (SF × Prop × List (SV × SV)) :=
  match f with
  | ⟨fn, nt, fr, todo⟩ => match todo with
    | .reg ops i (o :: rest) dec :: k => some (⟨fn, nt, putD fr nt o.dst v, .reg ops (i + 1) rest (decPut dec nt o.dst) :: k⟩, True, [])
    | .dreg ops (x :: r) dec :: k => match nthO ops.toList x with
      | some o => match putB nt o.dst with
        | true =>
          let fr' := putD fr nt o.dst v
          match recheck C.P C.globs H nt fr' ops.toList (decPut dec nt o.dst) x (depsOf o) r 0 ops.toList with
          | some (vc, eqs) => some (⟨fn, nt, fr', .dreg ops r (decPut dec nt o.dst) :: k⟩, vc, eqs)
          | none => none
        | false => none
      | none => none
    | _ => none
def exitS (id : Nat) : List SItem → Option (List SItem)
  | .blk i :: k => match Nat.beq i id with | true => some k | false => exitS id k
  | _ :: k => exitS id k
  | [] => none
def mkFr : Nat → List SV → Fr → Fr
  | _, [], fr => fr
  | i, x :: r, fr => mkFr (i + 1) r (fr.put i x)
def resV (P : Program) (H : Hp) (fr : Fr) : List ResultVar → Option (List SV × Prop)
  | [] => some ([], True)
  | .tmp t :: r => match fr.get t with
    | some v => match resV P H fr r with | some (l, vc) => some (v :: l, vc) | none => none
    | none => none
  | .cell a t :: r => match fr.get a with
    | some x => match loadQ P H t x with
      | some (v, vc') => match resV P H fr r with | some (l, vc) => some (v :: l, vc' ∧ vc) | none => none
      | none => none
    | none => none
def retV (P : Program) (H : Hp) (fn : Nat) (fr : Fr) : Option (SV × Prop) :=
  match P.funcs[fn]? with
  | some f => match resV P H fr f.results.toList with
    | some (l, vc) => match l with
      | [x] => some (x, vc)
      | l => some (.tup l, vc)
    | none => none
  | none => none
def stepRet (C : Cfg) (H : Hp) (fn : Nat) (fr : Fr) (stk : List SF) (hs : List Hint) : SR :=
  match stk with
  | [] => .stop
  | f :: stk' => match retV C.P H fn fr with
    | some (v, vc) => match resume C H f v with
      | some (f', vc', eqs) => .go ⟨H, f', stk'⟩ hs (vc ∧ vc') eqs
      | none => .stop
    | none => .stop
def enterQ (P : Program) (g : Nat) : Option (Code × Nat) :=
  match P.funcs[g]? with
  | some f => match f.name == "runtime.NumGoroutine" with
    | true => none
    | false => match f.body with
      | some c => some (c, f.ntmps)
      | none => none
  | none => none
def stepCall (C : Cfg) (H : Hp) (top : SF) (stk : List SF) (hs : List Hint) (g : Nat) (args : List SV) : SR :=
  match memB g C.stops with
  | true => .stop
  | false => match enterQ C.P g with
    | some (c, n) => match Nat.ble args.length n with
      | true => .go ⟨H, ⟨g, n, mkFr 0 args .e, [.code c]⟩, top :: stk⟩ hs True []
      | false => .stop
    | none => .stop
def hmOf (o : Oper) (hs : List Hint) : Nat × List Hint :=
  match o.op with
  | .lookup .. => match hs with | .m i :: hs' => (i, hs') | hs => (0, hs)
  | _ => (0, hs)
/-- The decision of a guard that is open. -/
def decide1 (ops : List Oper) (fr : Fr) (o : Oper) (hs : List Hint) : Option (Nat × Bool × List Hint × Prop) :=
  match guardT ops o with
  | none => none
  | some (t, _) => match fr.get t with
    | some (.bool x) => match hs with
      | .d y :: hs' => some (t, y, hs', x = y)
      | _ => none
    | _ => none

def stepReg (C : Cfg) (H : Hp) (fn nt : Nat) (fr : Fr) (ops : Array Oper) (i : Nat) (o : Oper) (rest : List Oper) (dec : List (Nat × Bool)) (k : List SItem) (stk : List SF) (hs : List Hint) : SR :=
  match guardQ ops.toList fr dec o with
  | none => match decide1 ops.toList fr o hs with
    | some (t, y, hs', vc) => .go ⟨H, ⟨fn, nt, fr, .reg ops i (o :: rest) ((t, y) :: dec) :: k⟩, stk⟩ hs' vc []
    | none => .stop
  | some false => .go ⟨H, ⟨fn, nt, putD fr nt o.dst .undef, .reg ops (i + 1) rest (decPut dec nt o.dst) :: k⟩, stk⟩ hs True []
  | some true => match hmOf o hs with
    | (hm, hs') => match qeval C.P C.globs H fr dec hm o.op with
      | some (v, vc) => .go ⟨H, ⟨fn, nt, putD fr nt o.dst v, .reg ops (i + 1) rest (decPut dec nt o.dst) :: k⟩, stk⟩ hs' vc []
      | none => match aeval C.P C.globs H fr o.op with
        | some (so, mk) => .new fun a => ⟨H ++ [(a, some so)], ⟨fn, nt, putD fr nt o.dst (mk H.length a), .reg ops (i + 1) rest (decPut dec nt o.dst) :: k⟩, stk⟩
        | none => match seval C.P C.globs H fr o.op with
          | some (H', vc) => .go ⟨H', ⟨fn, nt, putD fr nt o.dst .undef, .reg ops (i + 1) rest (decPut dec nt o.dst) :: k⟩, stk⟩ hs vc []
          | none => match ceval C.globs H fr o.op with
            | some (g, args) => stepCall C H ⟨fn, nt, fr, .reg ops i (o :: rest) dec :: k⟩ stk hs g args
            | none => .stop
/-- The objects that may have been made ahead can be made. -/
def earlyB (P : Program) (gl : List (Nat × Nat)) (H : Hp) (fr : Fr) (ops : List Oper) (nt : Nat) (all : List Nat) : List Nat → Bool
  | [] => true
  | j :: r => match nthO ops j with
    | some o => (match Nat.beq (clsOf P o) 1 && readyB o all && o.guard.isNone with
      | true => (aeval P gl H fr o.op).isSome && o.dst.isSome && putB nt o.dst
      | false => true) && earlyB P gl H fr ops nt all r
    | none => false
def stepDreg (C : Cfg) (H : Hp) (fn nt : Nat) (fr : Fr) (ops : Array Oper) (x : Nat) (r : List Nat) (dec : List (Nat × Bool)) (k : List SItem) (stk : List SF) (hs : List Hint) : SR :=
  match nthO ops.toList x with
  | none => .stop
  | some o => match putB nt o.dst with
    | false => .stop
    | true => match guardQ ops.toList fr dec o with
      | none => match decide1 ops.toList fr o hs with
        | some (t, y, hs', vc) => .go ⟨H, ⟨fn, nt, fr, .dreg ops (x :: r) ((t, y) :: dec) :: k⟩, stk⟩ hs' vc []
        | none => .stop
      | some w => match Nat.beq (clsOf C.P o) 0 with
        | true => match o.dst.isSome with
          | false => .stop
          | true => match w with
          | false => .go ⟨H, ⟨fn, nt, putD fr nt o.dst .undef, .dreg ops r (decPut dec nt o.dst) :: k⟩, stk⟩ hs True []
          | true => match qeval C.P C.globs H fr dec 0 o.op with
            | some (v, vc) => .go ⟨H, ⟨fn, nt, putD fr nt o.dst v, .dreg ops r (decPut dec nt o.dst) :: k⟩, stk⟩ hs vc []
            | none => .stop
        | false => match earlyB C.P C.globs H fr ops.toList nt (x :: r) r with
          | false => .stop
          | true => match w with
            | false => .go ⟨H, ⟨fn, nt, putD fr nt o.dst .undef, .dreg ops r (decPut dec nt o.dst) :: k⟩, stk⟩ hs True []
            | true => match Nat.beq (clsOf C.P o) 1 with
              | true => match aeval C.P C.globs H fr o.op with
                | some (so, mk) => .new fun a => ⟨H ++ [(a, some so)], ⟨fn, nt, putD fr nt o.dst (mk H.length a), .dreg ops r (decPut dec nt o.dst) :: k⟩, stk⟩
                | none => .stop
              | false => match o.op with
                | .assign y => match opv C.globs H fr y with
                  | some v => .go ⟨H, ⟨fn, nt, putD fr nt o.dst v, .dreg ops r (decPut dec nt o.dst) :: k⟩, stk⟩ hs True []
                  | none => .stop
                | _ => match seval C.P C.globs H fr o.op with
                  | some (H', vc) => match resume C H' ⟨fn, nt, fr, .dreg ops (x :: r) dec :: k⟩ .undef with
                    | some (f', vc', eqs) => .go ⟨H', f', stk⟩ hs (vc ∧ vc') eqs
                    | none => .stop
                  | none => match ceval C.globs H fr o.op with
                    | some (g, args) => stepCall C H ⟨fn, nt, fr, .dreg ops (x :: r) dec :: k⟩ stk hs g args
                    | none => .stop
def stepCode (C : Cfg) (H : Hp) (fn nt : Nat) (fr : Fr) (c : Code) (k : List SItem) (stk : List SF) (hs : List Hint) : SR :=
  match c with
  | .skip | .label _ => .go ⟨H, ⟨fn, nt, fr, k⟩, stk⟩ hs True []
  | .seq a c => .go ⟨H, ⟨fn, nt, fr, .code a :: .code c :: k⟩, stk⟩ hs True []
  | .cond x a c => match opv C.globs H fr x with
    | some (.blit true) => .go ⟨H, ⟨fn, nt, fr, .code a :: k⟩, stk⟩ hs True []
    | some (.blit false) => .go ⟨H, ⟨fn, nt, fr, .code c :: k⟩, stk⟩ hs True []
    | some (.bool y) => match hs with
      | .d true :: hs' => .go ⟨H, ⟨fn, nt, fr, .code a :: k⟩, stk⟩ hs' (y = true) []
      | .d false :: hs' => .go ⟨H, ⟨fn, nt, fr, .code c :: k⟩, stk⟩ hs' (y = false) []
      | _ => .stop
    | _ => .stop
  | .block id c => .go ⟨H, ⟨fn, nt, fr, .code c :: .blk id :: k⟩, stk⟩ hs True []
  | .loop c => .go ⟨H, ⟨fn, nt, fr, .loop c :: k⟩, stk⟩ hs True []
  | .scope c => .go ⟨H, ⟨fn, nt, fr, .code c :: .scope c :: k⟩, stk⟩ hs True []
  | .exit id => match exitS id k with
    | some k' => .go ⟨H, ⟨fn, nt, fr, k'⟩, stk⟩ hs True []
    | none => .stop
  | .ret => stepRet C H fn fr stk hs
  | .region _ ops draw => match draw with
    | false => .go ⟨H, ⟨fn, nt, fr, .reg ops 0 ops.toList [] :: k⟩, stk⟩ hs True []
    | true => match canon C.P ops.toList with
      | some r => .go ⟨H, ⟨fn, nt, fr, .dreg ops r [] :: k⟩, stk⟩ hs True []
      | none => .stop
  | _ => .stop
def step1 (C : Cfg) (st : St) (hs : List Hint) : SR :=
  match st with
  | ⟨H, ⟨fn, nt, fr, todo⟩, stk⟩ => match todo with
    | [] => stepRet C H fn fr stk hs
    | .code c :: k => stepCode C H fn nt fr c k stk hs
    | .blk _ :: k | .scope _ :: k => .go ⟨H, ⟨fn, nt, fr, k⟩, stk⟩ hs True []
    | .loop c :: k => match hs with
      | .u :: hs' => .go ⟨H, ⟨fn, nt, fr, .code c :: .loop c :: k⟩, stk⟩ hs' True []
      | _ => .stop
    | .reg _ _ [] _ :: k => .go ⟨H, ⟨fn, nt, fr, k⟩, stk⟩ hs True []
    | .reg ops i (o :: rest) dec :: k => stepReg C H fn nt fr ops i o rest dec k stk hs
    | .dreg _ [] _ :: k => .go ⟨H, ⟨fn, nt, fr, k⟩, stk⟩ hs True []
    | .dreg ops (x :: r) dec :: k => stepDreg C H fn nt fr ops x r dec k stk hs

structure Res where
  vc : Prop
  eqs : List (SV × SV)
  st : St
/-- A run, as far as it comes. 'β': the blocks of the objects that it makes. -/
def run (C : Cfg) (β : Nat → Nat) : Nat → List Hint → St → Res
  | 0, _, st => ⟨True, [], st⟩
  | n + 1, hs, st => match step1 C st hs with
    | .go st' hs' vc eqs => match run C β n hs' st' with
      | ⟨vc', eqs', st''⟩ => ⟨vc ∧ vc', eqs ++ eqs', st''⟩
    | .new f => run C β n hs (f (β st.H.length))
    | .stop => ⟨True, [], st⟩
end Go.Sx

/- The symbolic executor 'Sx': memory that is owned. -/
namespace Go.Sx

/-! ### Lists -/
theorem nthO_eq {α : Type} : ∀ (l : List α) (n : Nat), nthO l n = l[n]?
  | [], _ => by simp [nthO]
  | _ :: _, 0 => by simp [nthO]
  | _ :: r, n + 1 => by simp [nthO, nthO_eq r n]
theorem nthO_lt {α : Type} {l : List α} {n : Nat} {x : α} (h : nthO l n = some x) : n < l.length := by
  rw [nthO_eq] at h
  exact (List.getElem?_eq_some_iff.1 h).1
theorem length_updL {α : Type} : ∀ (l : List α) (n : Nat) (y : α), (updL l n y).length = l.length
  | [], _, _ => rfl
  | _ :: _, 0, _ => rfl
  | _ :: r, n + 1, y => by simp [updL, length_updL r n y]
theorem nthO_updL {α : Type} : ∀ (l : List α) (n : Nat) (y : α) (j : Nat), nthO (updL l n y) j = if j = n then (if n < l.length then some y else none) else nthO l j
  | [], n, y, j => by simp [updL, nthO]
  | x :: r, 0, y, 0 => by simp [updL, nthO]
  | x :: r, 0, y, j + 1 => by simp [updL, nthO]
  | x :: r, n + 1, y, 0 => by simp [updL, nthO]
  | x :: r, n + 1, y, j + 1 => by simp [updL, nthO, nthO_updL r n y j]
theorem nthO_append {α : Type} (l m : List α) (j : Nat) : nthO (l ++ m) j = if j < l.length then nthO l j else nthO m (j - l.length) := by
  simp only [nthO_eq, List.getElem?_append]
theorem sub_spec {α : Type} : ∀ {l : List α} {o n : Nat} {r : List α}, sub l o n = some r → r.length = n ∧ ∀ j, j < n → l[o + j]? = r[j]?
  | l, 0, 0, r, h => by
    cases l <;> simp [sub] at h <;> subst h <;> simp
  | [], o + 1, n, r, h => by simp [sub] at h
  | [], 0, n + 1, r, h => by simp [sub] at h
  | x :: l, 0, n + 1, r, h => by
    simp only [sub] at h
    split at h
    · rename_i m hm
      simp at h; subst h
      obtain ⟨h1, h2⟩ := sub_spec hm
      refine ⟨by simp [h1], fun j hj => ?_⟩
      cases j with
      | zero => simp
      | succ j => have := h2 j (by omega); simpa [Nat.add_comm, Nat.add_left_comm] using this
    · simp at h
  | x :: l, o + 1, n, r, h => by
    have h' : sub l o n = some r := by cases n <;> simpa [sub] using h
    obtain ⟨h1, h2⟩ := sub_spec h'
    refine ⟨h1, fun j hj => ?_⟩
    have := h2 j hj
    rw [show o + 1 + j = (o + j) + 1 by omega]
    simpa using this
theorem over_spec {α : Type} : ∀ {l : List α} {o : Nat} {ys r : List α}, over l o ys = some r → r.length = l.length ∧ o + ys.length ≤ l.length ∧ ∀ j, r[j]? = if o ≤ j ∧ j < o + ys.length then ys[j - o]? else l[j]?
  | l, 0, [], r, h => by
    have : r = l := by cases l <;> simpa [over, eq_comm] using h
    subst this
    refine ⟨rfl, by simp, fun j => ?_⟩
    simp; try omega
  | [], o + 1, ys, r, h => by cases ys <;> simp [over] at h
  | [], 0, y :: ys, r, h => by simp [over] at h
  | x :: l, 0, y :: ys, r, h => by
    simp only [over] at h
    split at h
    · rename_i m hm
      simp at h; subst h
      obtain ⟨h1, h2, h3⟩ := over_spec hm
      refine ⟨by simp [h1], by simp at h2 ⊢; omega, fun j => ?_⟩
      cases j with
      | zero => simp
      | succ j => simp only [List.getElem?_cons_succ, h3 j, List.length_cons]; simp
    · simp at h
  | x :: l, o + 1, ys, r, h => by
    have h' : (match over l o ys with | some l => some (x :: l) | none => none) = some r := by cases ys <;> exact h
    split at h'
    · rename_i m hm
      simp at h'; subst h'
      obtain ⟨h1, h2, h3⟩ := over_spec hm
      refine ⟨by simp [h1], by simp at h2 ⊢; omega, fun j => ?_⟩
      cases j with
      | zero => simp
      | succ j => simp only [List.getElem?_cons_succ, h3 j, Nat.add_sub_add_right, show (o + 1 ≤ j + 1 ∧ j + 1 < o + 1 + ys.length) ↔ (o ≤ j ∧ j < o + ys.length) by omega]
    · simp at h'

/-! ### Values: what is meant hangs on the objects' blocks alone -/
theorem dens_eq (ids : Nat → Nat) : ∀ l : List SV, SV.dens ids l = l.map (SV.den ids)
  | [] => by simp [SV.dens]
  | x :: r => by simp [SV.dens, dens_eq ids r]
theorem oks_iff (N : Nat) (ids : Nat → Nat) : ∀ l : List SV, SV.oks N ids l ↔ ∀ x ∈ l, x.ok N ids
  | [] => by simp [SV.oks]
  | x :: r => by simp [SV.oks, oks_iff N ids r]
mutual
theorem SV.same {N M : Nat} {ids ids' : Nat → Nat} (h : ∀ k, k < N → ids' k = ids k) (hm : N ≤ M) : ∀ {x : SV}, x.ok N ids → x.den ids' = x.den ids ∧ x.ok M ids'
  | .any _, hx => ⟨rfl, hx⟩
  | .int _ _, _ | .lit _ _, _ | .bool _, _ | .blit _, _ | .str _, _ | .raw _ _, _ | .nil, _ | .nilmap, _ | .undef, _ => ⟨by simp [SV.den], by simp [SV.ok]⟩
  | .ptr k _, hx | .elt k _ _ _, hx | .mapp k, hx => by simp only [SV.ok] at hx ⊢; simp only [SV.den, h _ hx, true_and]; omega
  | .sl k sz lo a len cap, hx => by
    simp only [SV.ok, SV.den, true_and] at hx ⊢
    refine ⟨hx.1, hx.2.imp id fun ⟨h1, h2⟩ => ⟨by omega, by rw [h2, h _ h1]⟩⟩
  | .agg cs, hx => by simp only [SV.ok] at hx; have := SV.sames h hm hx.1; simp only [SV.den, this.1, SV.ok, this.2, hx.2, and_self]
  | .tup cs, hx => by simp only [SV.ok] at hx; have := SV.sames h hm hx; simp only [SV.den, this.1, SV.ok, this.2, and_self]
  | .fn f l c, hx => by
    simp only [SV.ok] at hx
    have h1 := SV.sames h hm hx.1
    have h2 := SV.sames h hm hx.2
    simp only [SV.den, h1.1, h2.1, SV.ok, h1.2, h2.2, and_self]
  | .ifc t x, hx => by simp only [SV.ok] at hx; have := SV.same h hm hx; simp only [SV.den, this.1, SV.ok, this.2, and_self]
theorem SV.sames {N M : Nat} {ids ids' : Nat → Nat} (h : ∀ k, k < N → ids' k = ids k) (hm : N ≤ M) : ∀ {l : List SV}, SV.oks N ids l → SV.dens ids' l = SV.dens ids l ∧ SV.oks M ids' l
  | [], _ => by simp [SV.dens, SV.oks]
  | x :: r, hx => by
    simp only [SV.oks] at hx
    have h1 := SV.same h hm hx.1
    have h2 := SV.sames h hm hx.2
    simp only [SV.dens, h1.1, h2.1, SV.oks, h1.2, h2.2, and_self]
end

/-! ### What is owned -/
def OwnL (w : World) (L : List (Nat × Obj)) : Prop := (L.map Prod.fst).Nodup ∧ ∀ x ∈ L, w.heap[x.1]? = some x.2
theorem OwnL.perm {w : World} {L M : List (Nat × Obj)} (h : OwnL w L) (p : L.Perm M) : OwnL w M :=
  ⟨(p.map Prod.fst).nodup_iff.1 h.1, fun x hx => h.2 x (p.mem_iff.2 hx)⟩
theorem OwnL.sublist {w : World} {L M : List (Nat × Obj)} (h : OwnL w L) (p : M.Sublist L) : OwnL w M :=
  ⟨(p.map Prod.fst).nodup h.1, fun x hx => h.2 x (p.subset hx)⟩
theorem OwnL.left {w : World} {L M : List (Nat × Obj)} (h : OwnL w (L ++ M)) : OwnL w L := h.sublist (List.sublist_append_left _ _)
theorem OwnL.right {w : World} {L M : List (Nat × Obj)} (h : OwnL w (L ++ M)) : OwnL w M := h.sublist (List.sublist_append_right _ _)
theorem OwnL.heap {w w' : World} {L : List (Nat × Obj)} (h : OwnL w L) (e : w'.heap = w.heap) : OwnL w' L := ⟨h.1, fun x hx => by rw [e]; exact h.2 x hx⟩
theorem OwnL.lt {w : World} {L : List (Nat × Obj)} (h : OwnL w L) {x : Nat × Obj} (hx : x ∈ L) : x.1 < w.heap.size := by
  have := h.2 x hx
  exact (Array.getElem?_eq_some_iff.1 this).1
theorem OwnL.alloc {w : World} {L : List (Nat × Obj)} (h : OwnL w L) (o : Obj) : OwnL (w.alloc o) ((w.heap.size, o) :: L) := by
  refine ⟨?_, ?_⟩
  · simp only [List.map_cons, List.nodup_cons]
    refine ⟨fun hm => ?_, h.1⟩
    obtain ⟨x, hx, he⟩ := List.mem_map.1 hm
    have := h.lt hx
    omega
  · intro x hx
    rcases List.mem_cons.1 hx with rfl | hx
    · show (w.heap.push o)[w.heap.size]? = some o
      simp
    · have := h.lt hx
      show (w.heap.push o)[x.1]? = some x.2
      rw [Array.getElem?_push]
      rw [if_neg (by omega)]
      exact h.2 x hx
theorem OwnL.upd {w w' : World} {A B : List (Nat × Obj)} {b : Nat} {o o' : Obj} (h : OwnL w (A ++ (b, o) :: B)) (e : w'.heap = w.heap.setIfInBounds b o') : OwnL w' (A ++ (b, o') :: B) := by
  have hb : b < w.heap.size := h.lt (x := (b, o)) (by simp)
  refine ⟨by simpa using h.1, ?_⟩
  have hn := h.1
  simp only [List.map_append, List.map_cons, List.nodup_append, List.nodup_cons] at hn
  intro x hx
  rw [e]
  by_cases hxb : x.1 = b
  · have : x = (b, o') := by
      rcases List.mem_append.1 hx with hx | hx
      · exact absurd hxb (hn.2.2 x.1 (List.mem_map.2 ⟨x, hx, rfl⟩) b (by simp))
      · rcases List.mem_cons.1 hx with rfl | hx
        · rfl
        · exact absurd (List.mem_map.2 ⟨x, hx, hxb⟩) hn.2.1.1
    subst this
    simp [hb]
  · rw [Array.getElem?_setIfInBounds_ne (fun h => hxb h.symm)]
    refine h.2 x ?_
    rcases List.mem_append.1 hx with hx | hx
    · exact List.mem_append_left _ hx
    · rcases List.mem_cons.1 hx with rfl | hx
      · exact absurd rfl hxb
      · exact List.mem_append_right _ (List.mem_cons_of_mem _ hx)

/-! ### Objects -/
theorem ids_updL {H : Hp} {k b : Nat} {o o' : Option SO} (h : nthO H k = some (b, o)) : Hp.ids (updL H k (b, o')) = H.ids := by
  funext j
  unfold Hp.ids
  rw [nthO_updL]
  by_cases hj : j = k
  · subst hj; simp [nthO_lt h, h]
  · simp [hj]
theorem ids_append {H : Hp} (e : Ent) {k : Nat} (hk : k < H.length) : Hp.ids (H ++ [e]) k = H.ids k := by
  unfold Hp.ids; rw [nthO_append]; simp [hk]
theorem ids_new {H : Hp} (a : Nat) (o : Option SO) : Hp.ids (H ++ [(a, o)]) H.length = a := by
  unfold Hp.ids; rw [nthO_append]; simp [nthO]
theorem denL_split (ids : Nat → Nat) : ∀ {H : Hp} {k : Nat} {e : Ent}, nthO H k = some e → ∃ A B, ∀ e', denL ids (updL H k e') = A ++ e'.den ids ++ B ∧ denL ids H = A ++ e.den ids ++ B
  | [], _, _, h => by simp [nthO] at h
  | x :: r, 0, e, h => by simp [nthO] at h; subst h; exact ⟨[], denL ids r, fun e' => by simp [updL, denL]⟩
  | x :: r, k + 1, e, h => by
    simp only [nthO] at h
    obtain ⟨A, B, hAB⟩ := denL_split ids h
    refine ⟨x.den ids ++ A, B, fun e' => ?_⟩
    obtain ⟨h1, h2⟩ := hAB e'
    simp [updL, denL, h1, h2]
theorem denL_append (ids : Nat → Nat) : ∀ (H J : Hp), denL ids (H ++ J) = denL ids H ++ denL ids J
  | [], _ => rfl
  | x :: r, J => by simp [denL, denL_append ids r J]
theorem SO.same {N M : Nat} {ids ids' : Nat → Nat} (h : ∀ k, k < N → ids' k = ids k) (hm : N ≤ M) (b : Nat) : ∀ {o : SO}, o.ok N ids → o.den ids' b = o.den ids b ∧ o.ok M ids'
  | .cells cs ty, ho => by
    have := SV.sames h hm ho.1
    exact ⟨by simp only [SO.den, this.1], this.2, ho.2⟩
  | .row cs tl m mx es fz fb ty, ho => by
    have := SV.sames h hm ho.1.1
    exact ⟨by simp only [SO.den, this.1], ⟨this.2, ho.1.2⟩, ho.2⟩
  | .mapc es c, ho => by
    refine ⟨?_, fun x hx => ⟨(SV.same h hm (ho x hx).1).2, (SV.same h hm (ho x hx).2).2⟩⟩
    simp only [SO.den]
    congr 4
    apply List.map_congr_left
    intro x hx
    rw [(SV.same h hm (ho x hx).1).1, (SV.same h hm (ho x hx).2).1]
  | .iterc mk since seen last, ho => by
    refine ⟨?_, fun k hk => by have := ho k hk; omega⟩
    simp only [SO.den]
    cases mk with
    | none => rfl
    | some k => simp [h k (ho k rfl)]
  | .arr ty sz n cell, ho => by
    refine ⟨?_, fun i hi j hj => ⟨(SV.same h hm (ho i hi j hj).1).2, (ho i hi j hj).2⟩⟩
    simp only [SO.den]
    split
    · rfl
    · have : arrV ids' sz n cell = arrV ids sz n cell := by
        unfold arrV
        congr 1
        apply List.map_congr_left
        intro x hx
        have hx' : x < n * sz := List.mem_range.1 hx
        have hs : 0 < sz := by rcases Nat.eq_zero_or_pos sz with h | h; (subst h; simp at hx'); exact h
        exact (SV.same h hm (ho (x / sz) ((Nat.div_lt_iff_lt_mul hs).2 hx') (x % sz) (Nat.mod_lt _ hs)).1).1
      rw [this]
  | .map es c known, ho => ⟨rfl, fun x hx y hy => (SV.same h hm (ho x hx y hy)).2⟩
  | .raw o, _ => ⟨rfl, trivial⟩
  | .park l, _ => ⟨rfl, trivial⟩
theorem denL_same {N M : Nat} {ids ids' : Nat → Nat} (h : ∀ k, k < N → ids' k = ids k) (hm : N ≤ M) : ∀ {H : Hp}, (∀ (k b : Nat) (o : SO), nthO H k = some (b, some o) → o.ok N ids) → denL ids' H = denL ids H
  | [], _ => rfl
  | (b, none) :: r, hH => by
    simp only [denL, Ent.den]
    rw [denL_same h hm (H := r) (fun k b o hk => hH (k + 1) b o (by simpa [nthO] using hk))]
  | (b, some o) :: r, hH => by
    simp only [denL, Ent.den]
    rw [denL_same h hm (H := r) (fun k b o hk => hH (k + 1) b o (by simpa [nthO] using hk)), (SO.same h hm b (hH 0 b o (by simp [nthO]))).1]
/-- One object more. -/
theorem den_push {H : Hp} (hok : H.ok) (a : Nat) (o : SO) : Hp.den (H ++ [(a, some o)]) = H.den ++ o.den (Hp.ids (H ++ [(a, some o)])) a := by
  unfold Hp.den
  rw [denL_append, denL_same (N := H.length) (M := H.length) (fun k hk => ids_append _ hk) (Nat.le_refl _) hok]
  simp [denL, Ent.den]
theorem ok_push {H : Hp} (hok : H.ok) (a : Nat) (o : SO) (ho : o.ok (H.length + 1) (Hp.ids (H ++ [(a, some o)]))) : Hp.ok (H ++ [(a, some o)]) := by
  intro k b o' hk
  rw [nthO_append] at hk
  simp only [List.length_append, List.length_cons, List.length_nil, Nat.zero_add]
  split at hk
  · rename_i hlt
    exact (SO.same (fun j hj => ids_append _ hj) (Nat.le_succ _) b (hok k b o' hk)).2
  · rename_i hlt
    cases hkk : k - H.length with
    | zero => rw [hkk] at hk; simp [nthO] at hk; obtain ⟨rfl, rfl⟩ := hk; exact ho
    | succ j => rw [hkk] at hk; simp [nthO] at hk
theorem ok_updL {H : Hp} (hok : H.ok) {k b : Nat} {o : Option SO} (h : nthO H k = some (b, o)) {o' : SO} (ho : o'.ok H.length H.ids) : Hp.ok (updL H k (b, some o')) := by
  intro j b' o'' hj
  rw [ids_updL h, length_updL]
  rw [nthO_updL] at hj
  by_cases hjk : j = k
  · simp [hjk, nthO_lt h] at hj; obtain ⟨_, rfl⟩ := hj; exact ho
  · simp [hjk] at hj; exact hok j b' o'' hj
end Go.Sx

/- The symbolic executor 'Sx': what is worked out is what the model does. -/
namespace Go.Sx
open Go

/-! ### Constants -/
theorem cst1_den (ids : Nat → Nat) : ∀ x : Value, (cst1 x).den ids = x := by
  intro x
  unfold cst1
  split <;> simp [SV.den, Cap.v]
theorem cst1_ok (N : Nat) (ids : Nat → Nat) {x : Value} (h : cellB x = true) : (cst1 x).ok N ids ∧ (cst1 x).one = true := by
  unfold cst1
  split <;> simp [SV.ok, SV.one, Cap.v]
  exact h
theorem cstL_den (ids : Nat → Nat) : ∀ l : List Value, SV.dens ids (cstL l) = l
  | [] => rfl
  | x :: r => by simp [cstL, SV.dens, cst1_den, cstL_den ids r]
theorem cstL_ok (N : Nat) (ids : Nat → Nat) : ∀ {l : List Value}, l.all cellB = true → SV.oks N ids (cstL l) ∧ (cstL l).all SV.one = true
  | [], _ => by simp [cstL, SV.oks]
  | x :: r, h => by
    simp only [List.all_cons, Bool.and_eq_true] at h
    have h1 := cst1_ok N ids h.1
    have h2 := cstL_ok N ids h.2
    simp only [cstL, SV.oks, List.all_cons, h1, h2, Bool.and_self, and_self]
theorem cstO_sound (N : Nat) (ids : Nat → Nat) {x : Value} {v : SV} (h : cstO x = some v) : v.den ids = x ∧ v.ok N ids := by
  unfold cstO at h
  split at h
  · split at h
    · rename_i cs hc
      simp only [Option.some.injEq] at h; subst h
      have := cstL_ok N ids hc
      simp [SV.den, cstL_den, SV.ok, this]
    · simp at h
  · simp at h
  · rename_i h1 h2
    simp only [Option.some.injEq] at h; subst h
    refine ⟨cst1_den ids _, (cst1_ok N ids ?_).1⟩
    cases x <;> first | rfl | (exfalso; exact h1 _ rfl) | (exfalso; exact h2 _ rfl)

/-! ### Operands -/
/-- What stands in the slots is what the table says, as far as X goes. -/
def FrOn (ids : Nat → Nat) (fr : Fr) (X : Nat → Prop) (tmps : Array Value) : Prop := ∀ t sv, X t → fr.get t = some sv → tmps[t]? = some (sv.den ids)
def FrOk (N : Nat) (ids : Nat → Nat) (fr : Fr) : Prop := ∀ t sv, fr.get t = some sv → sv.ok N ids
structure Env where
  gl : List (Nat × Nat)
  H : Hp
  fr : Fr
  a : Act
  X : Nat → Prop
structure Env.Ok (e : Env) : Prop where
  hok : e.H.ok
  frok : FrOk e.H.length e.H.ids e.fr
  on : FrOn e.H.ids e.fr e.X e.a.tmps
def inX (X : Nat → Prop) (l : List Operand) : Prop := ∀ t, t ∈ opTmps l → X t
theorem globK_sound {H : Hp} {g : Nat} : ∀ {gl : List (Nat × Nat)} {v : SV}, globK H g gl = some v → v.den H.ids = .pointer (some ⟨g, 0, none⟩) ∧ v.ok H.length H.ids
  | [], _, h => by simp [globK] at h
  | (g', k) :: r, v, h => by
    simp only [globK] at h
    split at h
    · split at h
      · rename_i blk o hk
        split at h
        · rename_i hb
          simp only [Option.some.injEq] at h; subst h
          have : H.ids k = g := by unfold Hp.ids; rw [hk]; exact Nat.eq_of_beq_eq_true hb
          simp [SV.den, this, SV.ok, nthO_lt hk]
        · simp at h
      · simp at h
    · exact globK_sound h
theorem opv_sound {e : Env} (he : e.Ok) {x : Operand} {v : SV} (h : opv e.gl e.H e.fr x = some v) (hx : inX e.X [x]) : e.a.eval x = v.den e.H.ids ∧ v.ok e.H.length e.H.ids := by
  cases x with
  | tmp t =>
    simp only [opv] at h
    have := he.on t v (hx t (by simp [opTmps])) h
    refine ⟨?_, he.frok t v h⟩
    simp [Act.eval, Array.getD_eq_getD_getElem?, this]
  | const x =>
    simp only [opv] at h
    have := cstO_sound e.H.length e.H.ids h
    exact ⟨this.1.symm, this.2⟩
  | global g => simp only [opv] at h; have := globK_sound h; exact ⟨this.1.symm, this.2⟩
  | func g => simp only [opv, Option.some.injEq] at h; subst h; simp [Act.eval, SV.den, SV.dens, SV.ok, SV.oks]
theorem opTmps_append (l m : List Operand) : opTmps (l ++ m) = opTmps l ++ opTmps m := by
  induction l with
  | nil => rfl
  | cons x r ih => cases x <;> simp [opTmps, ih]
theorem inX_cons {X : Nat → Prop} {x : Operand} {l : List Operand} : inX X (x :: l) ↔ inX X [x] ∧ inX X l := by
  unfold inX
  rw [show x :: l = [x] ++ l from rfl, opTmps_append]
  simp only [List.mem_append]
  exact ⟨fun h => ⟨fun t ht => h t (.inl ht), fun t ht => h t (.inr ht)⟩, fun h t ht => ht.elim (h.1 t) (h.2 t)⟩
theorem inX_append {X : Nat → Prop} {l m : List Operand} : inX X (l ++ m) ↔ inX X l ∧ inX X m := by
  unfold inX
  rw [opTmps_append]
  simp only [List.mem_append]
  exact ⟨fun h => ⟨fun t ht => h t (.inl ht), fun t ht => h t (.inr ht)⟩, fun h t ht => ht.elim (h.1 t) (h.2 t)⟩
theorem inX_nil {X : Nat → Prop} : inX X [] := fun t ht => by simp [opTmps] at ht
theorem opvs_sound {e : Env} (he : e.Ok) : ∀ {l : List Operand} {vs : List SV}, opvs e.gl e.H e.fr l = some vs → inX e.X l → l.map e.a.eval = SV.dens e.H.ids vs ∧ SV.oks e.H.length e.H.ids vs
  | [], vs, h, _ => by simp [opvs] at h; subst h; simp [SV.dens, SV.oks]
  | x :: r, vs, h, hx => by
    simp only [opvs] at h
    split at h
    · rename_i v hv
      split at h
      · rename_i l hl
        simp only [Option.some.injEq] at h; subst h
        obtain ⟨h1, h2⟩ := inX_cons.1 hx
        have e1 := opv_sound he hv h1
        have e2 := opvs_sound he hl h2
        simp only [List.map_cons, e1.1, e2.1, SV.dens, SV.oks, e1.2, e2.2, and_self]
      · simp at h
    · simp at h

/-! ### Cells -/
theorem one_cells {x : SV} (h : x.one = true) (N : Nat) (ids : Nat → Nat) (hok : x.ok N ids) : (x.den ids).cells = #[x.den ids] ∧ cellB (x.den ids) = true := by
  cases x <;> simp [SV.one] at h <;> simp [SV.den, Value.cells, cellB]
  rename_i y
  simp only [SV.ok] at hok
  cases y <;> simp_all [cellB]
theorem svCells_sound {x : SV} {l : List SV} (h : svCells x = some l) {N : Nat} {ids : Nat → Nat} (hok : x.ok N ids) : (x.den ids).cells = (SV.dens ids l).toArray ∧ SV.oks N ids l ∧ l.all SV.one = true := by
  unfold svCells at h
  split at h
  · simp only [Option.some.injEq] at h; subst h
    simp only [SV.ok] at hok
    simp [SV.den, Value.cells, hok]
  · split at h
    · rename_i hone
      simp only [Option.some.injEq] at h; subst h
      have := one_cells hone N ids hok
      simp [this.1, SV.dens, SV.oks, hok, hone]
    · simp at h
theorem isAggT_run {P : Program} {t : TypeId} {r : Bool} (h : isAggT P t = some r) (w : World) : (isAgg t).run P w = .ok r w := by
  unfold isAggT at h
  simp only [isAgg, underlying, Sem.run_bind, run_program]
  cases hu : P.underlying t with
  | none => simp [hu] at h
  | some d => cases d <;> simp_all
theorem zeroT_sound {P : Program} {t : TypeId} {l : List SV} (h : zeroT P t = some l) (N : Nat) (ids : Nat → Nat) :
    ∃ z, (∀ w, (zeroValue t).run P w = .ok z w) ∧ z.cells = (SV.dens ids l).toArray ∧ SV.oks N ids l ∧ l.all SV.one = true := by
  unfold zeroT at h
  split at h
  · rename_i i hi
    split at h
    · rename_i z hz
      split at h
      · rename_i x hx
        have h1 := cstO_sound N ids hx
        have h2 := svCells_sound h h1.2
        refine ⟨z, fun w => ?_, by rw [← h1.1]; exact h2.1, h2.2⟩
        simp [zeroValue, typeInfo, hi, hz]
      · simp at h
    · simp at h
  · simp at h
end Go.Sx

/- The symbolic executor 'Sx': operators. -/
namespace Go.Sx
open Go

theorem kEq_eq {a b : IntKind} (h : kEq a b = true) : a = b := by cases a <;> cases b <;> simp_all [kEq]
theorem isInt_den {x : SV} {l : Bool} {k : IntKind} {a : Int} (h : isInt x = some (l, k, a)) (ids : Nat → Nat) : x.den ids = .int k a := by
  cases x <;> simp [isInt] at h <;> (obtain ⟨_, rfl, rfl⟩ := h; simp [SV.den])
theorem isBool_den {x : SV} {l t : Bool} (h : isBool x = some (l, t)) (ids : Nat → Nat) : x.den ids = .bool t := by
  cases x <;> simp [isBool] at h <;> (obtain ⟨_, rfl⟩ := h; simp [SV.den])
theorem mkInt_den (l : Bool) (k : IntKind) (x : Int) (ids : Nat → Nat) : (mkInt l k x).den ids = .int k x := by cases l <;> simp [mkInt, SV.den]
theorem mkBool_den (l t : Bool) (ids : Nat → Nat) : (mkBool l t).den ids = .bool t := by cases l <;> simp [mkBool, SV.den]
theorem mkInt_ok (l : Bool) (k : IntKind) (x : Int) (N : Nat) (ids : Nat → Nat) : (mkInt l k x).ok N ids := by cases l <;> simp [mkInt, SV.ok]
theorem mkBool_ok (l t : Bool) (N : Nat) (ids : Nat → Nat) : (mkBool l t).ok N ids := by cases l <;> simp [mkBool, SV.ok]

theorem binI_sound {P : Program} {op : BinOp} {l : Bool} {k k' : IntKind} {a b : Int} {v : SV} {vc : Prop} (h : binI op l k k' a b = some (v, vc)) (hvc : vc) (t : TypeId) (w : World) (N : Nat) (ids : Nat → Nat) :
    (binOp op t (.int k a) (.int k' b)).run P w = .ok (v.den ids) w ∧ v.ok N ids := by
  unfold binI at h
  split at h
  · simp only [Option.some.injEq, Prod.mk.injEq] at h
    obtain ⟨rfl, rfl⟩ := h
    refine ⟨?_, mkInt_ok _ _ _ _ _⟩
    have : ¬ b < 0 := by omega
    simp [binOp, Op.shift, this, mkInt_den]
  · simp only [Option.some.injEq, Prod.mk.injEq] at h
    obtain ⟨rfl, rfl⟩ := h
    refine ⟨?_, mkInt_ok _ _ _ _ _⟩
    have : ¬ b < 0 := by omega
    simp [binOp, Op.shift, this, mkInt_den]
  · rename_i h1 h2
    split at h
    · simp at h
    · rename_i hk
      have := kEq_eq hk
      subst this
      split at h <;> first
        | (simp at h; done)
        | (simp only [Option.some.injEq, Prod.mk.injEq] at h
           obtain ⟨rfl, rfl⟩ := h
           refine ⟨?_, by first | exact mkInt_ok _ _ _ _ _ | exact mkBool_ok _ _ _ _⟩
           simp [binOp, Op.intArith, Op.intDiv, Op.intBits, Op.intCmp, mkInt_den, mkBool_den, *])

theorem toList_mk (l : List UInt8) : (ByteArray.mk l.toArray).toList = l := by
  rw [ByteArray.toList_eq]
theorem append_mk (a b : List UInt8) : (ByteArray.mk a.toArray ++ ByteArray.mk b.toArray) = ByteArray.mk (a ++ b).toArray := by
  apply ByteArray.ext
  simp
theorem size_mk (a : List UInt8) : (ByteArray.mk a.toArray).size = a.length := by simp [ByteArray.size]
theorem max64 : IntKind.i64.max = 9223372036854775807 := by decide
theorem binS_sound {P : Program} {op : BinOp} {a b : List UInt8} {v : SV} {vc : Prop} (h : binS op a b = some (v, vc)) (hvc : vc) (t : TypeId) (w : World) (N : Nat) (ids : Nat → Nat) :
    (binOp op t (.string ⟨a.toArray⟩) (.string ⟨b.toArray⟩)).run P w = .ok (v.den ids) w ∧ v.ok N ids := by
  unfold binS at h
  split at h
  · simp only [Option.some.injEq, Prod.mk.injEq] at h
    obtain ⟨rfl, rfl⟩ := h
    refine ⟨?_, by simp [SV.ok]⟩
    have hn : ¬ ((((ByteArray.mk a.toArray).size + (ByteArray.mk b.toArray).size : Nat) : Int) > IntKind.i64.max) := by
      rw [size_mk, size_mk]; omega
    simp only [binOp, Op.stringOp]
    rw [if_neg hn, append_mk]
    simp [SV.den]
  all_goals first
    | (simp at h; done)
    | (simp only [Option.some.injEq, Prod.mk.injEq] at h
       obtain ⟨rfl, rfl⟩ := h
       refine ⟨?_, by simp [SV.ok]⟩
       simp [binOp, Op.stringOp, toList_mk, SV.den])

theorem notB_sound {x r : SV} (h : notB x = some r) (N : Nat) (ids : Nat → Nat) : ∃ t, x.den ids = .bool t ∧ r.den ids = .bool (!t) ∧ r.ok N ids := by
  unfold notB at h
  split at h <;> first
    | (simp at h; done)
    | (simp only [Option.some.injEq] at h; subst h; simp [SV.den, SV.ok])

theorem equalIn_nil {P : Program} (d : Nat) (t e : TypeId) (ht : P.underlying t = some (.pointer e)) (w : World) (a : Option Addr) :
    (Op.equalIn (d + 1) t (.pointer a) (.pointer none)).run P w = .ok a.isNone w ∧ (Op.equalIn (d + 1) t (.pointer none) (.pointer a)).run P w = .ok a.isNone w := by
  cases a <;> simp [Op.equalIn, underlying, ht]
theorem eql_nil {P : Program} (t e : TypeId) (ht : P.underlying t = some (.pointer e)) (w : World) (a : Option Addr) :
    (binOp .eql t (.pointer a) (.pointer none)).run P w = .ok (.bool a.isNone) w ∧ (binOp .eql t (.pointer none) (.pointer a)).run P w = .ok (.bool a.isNone) w := by
  obtain ⟨h1, h2⟩ := equalIn_nil 9999 t e ht w a
  have e0 : ∀ x y, Op.equal t x y = Op.equalIn (9999 + 1) t x y := fun _ _ => rfl
  constructor
  · simp only [binOp, Sem.run_bind, e0, h1, Result.andThen_ok, Sem.run_pure]
  · simp only [binOp, Sem.run_bind, e0, h2, Result.andThen_ok, Sem.run_pure]
/-- x == nil. -/
theorem eqNil_sound {P : Program} {x r : SV} {vc : Prop} (h : eqNil x = some (r, vc)) (hvc : vc) (t e : TypeId) (ht : P.underlying t = some (.pointer e)) (w : World) (N : Nat) (ids : Nat → Nat) :
    ∃ q, r.den ids = .bool q ∧ r.ok N ids ∧ (binOp .eql t (x.den ids) (.pointer none)).run P w = .ok (.bool q) w ∧ (binOp .eql t (.pointer none) (x.den ids)).run P w = .ok (.bool q) w ∧ ptrV (x.den ids) = true := by
  have key := eql_nil t e ht w
  unfold eqNil at h
  split at h <;> first
    | (simp at h; done)
    | (simp only [Option.some.injEq, Prod.mk.injEq] at h
       obtain ⟨rfl, rfl⟩ := h)
  · exact ⟨true, by simp [SV.den], by simp [SV.ok], (key none).1, (key none).2, rfl⟩
  · exact ⟨false, by simp [SV.den], by simp [SV.ok], (key (some _)).1, (key (some _)).2, rfl⟩
  · exact ⟨false, by simp [SV.den], by simp [SV.ok], (key (some _)).1, (key (some _)).2, rfl⟩
  · exact ⟨false, by simp [SV.den], by simp [SV.ok], (key (some _)).1, (key (some _)).2, rfl⟩
  · rename_i y
    refine ⟨nilV y, by simp [SV.den], by simp [SV.ok], ?_⟩
    cases y <;> simp [ptrV] at hvc
    rename_i a
    cases a
    · exact ⟨(key none).1, (key none).2, rfl⟩
    · exact ⟨(key (some _)).1, (key (some _)).2, rfl⟩
end Go.Sx

/- The symbolic executor 'Sx': operators, loads. -/
namespace Go.Sx
open Go

theorem map_nil {P : Program} (t k e : TypeId) (ht : P.underlying t = some (.map k e)) (w : World) (r : Option Nat) :
    (binOp .eql t (.map r) (.map none)).run P w = .ok (.bool r.isNone) w := by
  have h : ∀ d, (Op.equalIn (d + 1) t (.map r) (.map none)).run P w = .ok r.isNone w := by
    intro d; cases r <;> simp [Op.equalIn, underlying, ht]
  have e0 : ∀ x y, Op.equal t x y = Op.equalIn (9999 + 1) t x y := fun _ _ => rfl
  simp only [binOp, Sem.run_bind, e0, h, Result.andThen_ok, Sem.run_pure]

theorem sizeOf_run {P : Program} {t : TypeId} {d : TypeDesc} (hu : P.underlying t = some d) (w : World) : (sizeOf t).run P w = .ok (P.cellsOf t) w := by
  have hs : ∃ i, P.info? t = some i := by
    unfold Program.underlying at hu; cases hi : P.info? t with | none => simp [hi] at hu | some i => exact ⟨i, rfl⟩
  obtain ⟨i, hi⟩ := hs
  simp [sizeOf, typeInfo, hi, Program.cellsOf]
theorem underlying_run {P : Program} {t : TypeId} {d : TypeDesc} (hu : P.underlying t = some d) (w : World) : (underlying t).run P w = .ok d w := by
  simp [underlying, hu]
theorem part_agg {P : Program} {t : TypeId} {A : Array Value} {off : Nat} {d : TypeDesc} (hu : P.underlying t = some d) (ha : ∀ w, (isAgg t).run P w = .ok true w) (w : World) :
    (part t A off).run P w = .ok (.agg (A.extract off (off + P.cellsOf t))) w := by
  simp only [part, Sem.run_bind, ha, Result.andThen_ok, if_true, sizeOf_run hu, Sem.run_pure]
theorem part_one {P : Program} {t : TypeId} {A : Array Value} {off : Nat} {v : Value} (ha : ∀ w, (isAgg t).run P w = .ok false w) (hv : A[off]? = some v) (w : World) :
    (part t A off).run P w = .ok v w := by
  simp only [part, Sem.run_bind, ha, Result.andThen_ok, Bool.false_eq_true, if_false, hv, Sem.run_pure]
theorem isAgg_true {P : Program} {t : TypeId} {d : TypeDesc} (hu : P.underlying t = some d) (hd : (∃ fs, d = .struct fs) ∨ ∃ n e, d = .array n e) (w : World) : (isAgg t).run P w = .ok true w := by
  simp only [isAgg, Sem.run_bind, underlying_run hu, Result.andThen_ok]
  rcases hd with ⟨fs, rfl⟩ | ⟨n, e, rfl⟩ <;> rfl
theorem isAgg_false {P : Program} {t : TypeId} {d : TypeDesc} (hu : P.underlying t = some d) (h1 : ∀ fs, d ≠ .struct fs) (h2 : ∀ n e, d ≠ .array n e) (w : World) : (isAgg t).run P w = .ok false w := by
  simp only [isAgg, Sem.run_bind, underlying_run hu, Result.andThen_ok]
  cases d <;> first | rfl | exact absurd rfl (h1 _) | exact absurd rfl (h2 _ _)
theorem partS_sound {P : Program} {t : TypeId} {cs : List SV} {off : Nat} {v : SV} (h : partS P t cs off = some v) {N : Nat} {ids : Nat → Nat} (hok : SV.oks N ids cs) (hone : cs.all SV.one = true) (w : World) :
    (part t (SV.dens ids cs).toArray off).run P w = .ok (v.den ids) w ∧ v.ok N ids := by
  unfold partS at h
  have agg : ∀ (l : List SV), sub cs off (P.cellsOf t) = some l → ((SV.dens ids cs).toArray.extract off (off + P.cellsOf t)) = (SV.dens ids l).toArray ∧ SV.oks N ids l ∧ l.all SV.one = true := by
    intro l hl
    obtain ⟨h1, h2⟩ := sub_spec hl
    have hmem : ∀ x ∈ l, x ∈ cs := by
      intro x hx
      obtain ⟨j, hj, rfl⟩ := List.getElem_of_mem hx
      have := h2 j (by omega)
      rw [List.getElem?_eq_getElem hj] at this
      exact List.mem_of_getElem? this
    refine ⟨?_, (oks_iff _ _ _).2 fun x hx => (oks_iff _ _ _).1 hok x (hmem x hx), List.all_eq_true.2 fun x hx => List.all_eq_true.1 hone x (hmem x hx)⟩
    apply Array.ext'
    simp only [Array.toList_extract, List.extract_eq_take_drop, dens_eq]
    apply List.ext_getElem?
    intro j
    by_cases hj : j < P.cellsOf t
    · rw [List.getElem?_take_of_lt (by omega), List.getElem?_drop, List.getElem?_map, List.getElem?_map, h2 j hj]
    · rw [List.getElem?_take_eq_none (by omega), List.getElem?_eq_none (by simp; omega)]
  split at h
  · rename_i fs hu
    split at h
    · rename_i l hl
      simp only [Option.some.injEq] at h; subst h
      obtain ⟨e1, e2, e3⟩ := agg l hl
      exact ⟨by rw [part_agg hu (isAgg_true hu (.inl ⟨_, rfl⟩)), e1]; simp [SV.den], e2, e3⟩
    · simp at h
  · rename_i n el hu
    split at h
    · rename_i l hl
      simp only [Option.some.injEq] at h; subst h
      obtain ⟨e1, e2, e3⟩ := agg l hl
      exact ⟨by rw [part_agg hu (isAgg_true hu (.inr ⟨_, _, rfl⟩)), e1]; simp [SV.den], e2, e3⟩
    · simp at h
  · rename_i d h1 h2 hu
    rw [nthO_eq] at h
    have : (SV.dens ids cs).toArray[off]? = some (v.den ids) := by simp [dens_eq, h]
    exact ⟨part_one (isAgg_false hu h1 h2) this w, (oks_iff _ _ _).1 hok v (List.mem_of_getElem? h)⟩
  · simp at h

mutual
theorem eqS_sound {P : Program} {w : World} {N : Nat} {ids : Nat → Nat} : ∀ {d : Nat} {t : TypeId} {x y : SV} {r : Bool}, eqS P d t x y = some r → x.ok N ids → y.ok N ids → ∀ D, (Op.equalIn (D + d) t (x.den ids) (y.den ids)).run P w = .ok r w
  | 0, _, _, _, _, h, _, _, _ => by simp [eqS] at h
  | d + 1, t, x, y, r, h, hx, hy, D => by
    rw [show D + (d + 1) = (D + d) + 1 by omega]
    simp only [eqS] at h
    split at h
    · rename_i kk hu
      split at h
      · rename_i l1 k a ha
        split at h
        · rename_i l2 k' b hb
          split at h
          · rename_i hk
            have := kEq_eq hk
            subst this
            simp only [Option.some.injEq] at h; subst h
            rw [isInt_den ha, isInt_den hb]
            exact run_equalIn_int w _ t _ kk a b hu
          · simp at h
        · simp at h
      · simp at h
    · rename_i hu
      split at h
      · rename_i l1 a ha
        split at h
        · rename_i l2 b hb
          simp only [Option.some.injEq] at h; subst h
          rw [isBool_den ha, isBool_den hb]
          exact run_equalIn_bool' w _ t a b hu
        · simp at h
      · simp at h
    · rename_i hu
      split at h
      · split at h
        · rename_i a _ b
          simp only [Option.some.injEq] at h; subst h
          simp only [SV.den]
          rw [run_equalIn_string w _ t _ _ hu, toList_mk, toList_mk]
        · simp at h
      · simp at h
    · rename_i fs hu
      split at h
      · simp at h
      · rename_i hst
        split at h
        · rename_i xs
          split at h
          · rename_i ys
            simp only [SV.ok] at hx hy
            have hf : P.fieldsOf t = fs := by simp [Program.fieldsOf, hu]
            simp only [SV.den]
            rw [run_equalIn_struct w _ t _ _ (by rw [hf]; exact hu) hst, hf]
            exact eqF_sound h hx.1 hx.2 hy.1 hy.2 D
          · simp at h
        · simp at h
    · simp at h
theorem eqF_sound {P : Program} {w : World} {N : Nat} {ids : Nat → Nat} : ∀ {d : Nat} {fs : List Field} {xs ys : List SV} {r : Bool}, eqF P d fs xs ys = some r → SV.oks N ids xs → xs.all SV.one = true → SV.oks N ids ys → ys.all SV.one = true →
    ∀ D, (Op.eqFields (D + d) (SV.dens ids xs).toArray (SV.dens ids ys).toArray fs).run P w = .ok r w
  | d, [], _, _, r, h, _, _, _, _, _ => by cases d <;> (simp only [eqF, Option.some.injEq] at h; subst h; simp [Op.eqFields])
  | 0, _ :: _, _, _, _, h, _, _, _, _, _ => by simp [eqF] at h
  | d + 1, f :: fs, xs, ys, r, h, hx, hx1, hy, hy1, D => by
    simp only [eqF] at h
    split at h
    · simp at h
    · rename_i hn _
      split at h
      · rename_i x hpx
        split at h
        · rename_i y hpy
          split at h
          · rename_i r1 hr1
            split at h
            · rename_i r2 hr2
              simp only [Option.some.injEq] at h; subst h
              have p1 := partS_sound hpx hx hx1 w
              have p2 := partS_sound hpy hy hy1 w
              have e1 := eqS_sound (w := w) hr1 p1.2 p2.2 (D + 1)
              have e2 := eqF_sound (w := w) hr2 hx hx1 hy hy1 (D + 1)
              rw [show D + 1 + d = D + (d + 1) by omega] at e1 e2
              simp only [Op.eqFields, ne_eq, hn, not_false_eq_true, if_true, Sem.run_bind, p1.1, p2.1, Result.andThen_ok, e1, Sem.run_ite]
              cases r1 <;> simp [e2]
            · simp at h
          · simp at h
        · simp at h
      · simp at h
end
end Go.Sx

/- The symbolic executor 'Sx': loads, literals. -/
namespace Go.Sx
open Go

theorem addr_add (b off n : Nat) : (⟨b, off, none⟩ : Addr).add n = ⟨b, off + n, none⟩ := by
  unfold Addr.add; split
  · subst_vars; rfl
  · rfl
theorem ids_of {H : Hp} {k b : Nat} {o : Option SO} (h : nthO H k = some (b, o)) : H.ids k = b := by unfold Hp.ids; rw [h]
theorem own_obj {w : World} {H : Hp} {F : List (Nat × Obj)} (hw : OwnL w (H.den ++ F)) {k b : Nat} {o : SO} (h : nthO H k = some (b, some o)) {x : Nat × Obj} (hx : x ∈ o.den H.ids b) : w.heap[x.1]? = some x.2 := by
  obtain ⟨A, B, hAB⟩ := denL_split H.ids h
  refine hw.2 x (List.mem_append_left _ ?_)
  have := (hAB (b, none)).2
  unfold Hp.den
  rw [this]
  simp [Ent.den, hx]
theorem cell_of_heap {w : World} {b : Nat} {c : Array Value} {t : TypeId} {fz : Nat × Nat} (h : w.heap[b]? = some (.cells c t fz)) (off : Nat) : w.cell? ⟨b, off, none⟩ = c[off]? := by
  simp [World.cell?, h]
theorem cell_cells {w : World} {H : Hp} {F : List (Nat × Obj)} (hw : OwnL w (H.den ++ F)) {k b : Nat} {cs : List SV} {ty : TypeId} (h : nthO H k = some (b, some (.cells cs ty))) (off : Nat) :
    w.cell? ⟨H.ids k, off, none⟩ = (cs[off]?).map (SV.den H.ids) := by
  rw [ids_of h]
  rw [cell_of_heap (own_obj hw h (x := (b, .cells (SV.dens H.ids cs).toArray ty)) (by simp [SO.den])) off]
  simp [dens_eq]
theorem cells_get {w : World} {H : Hp} {F : List (Nat × Obj)} (hw : OwnL w (H.den ++ F)) {k b : Nat} {o : SO} {cs : List SV} (hk : nthO H k = some (b, some o)) (ho : (∃ ty, o = .cells cs ty) ∨ ∃ tl m mx es fz fb ty, o = .row cs tl m mx es fz fb ty) (off : Nat) (v : SV) (h : cs[off]? = some v) :
    w.cell? ⟨H.ids k, off, none⟩ = some (v.den H.ids) := by
  rcases ho with ⟨ty, rfl⟩ | ⟨tl, m, mx, es, fz, fb, ty, rfl⟩
  · rw [cell_cells hw hk, h]; rfl
  · rw [ids_of hk, cell_of_heap (own_obj hw hk (x := (b, .cells (SV.dens H.ids cs ++ tl).toArray ty fz)) (by simp [SO.den])) off]
    have hlt := (List.getElem?_eq_some_iff.1 h).1
    rw [List.getElem?_toArray, List.getElem?_append_left (by rw [dens_eq, List.length_map]; exact hlt), dens_eq, List.getElem?_map, h]; rfl
theorem arrV_get (ids : Nat → Nat) {sz n : Nat} (cell : Nat → Nat → SV) {i j : Nat} (hi : i < n) (hj : j < sz) : (arrV ids sz n cell)[i * sz + j]? = some ((cell i j).den ids) := by
  have hlt : i * sz + j < n * sz := by
    have : (i + 1) * sz ≤ n * sz := Nat.mul_le_mul_right _ hi
    rw [Nat.add_mul] at this; omega
  have h1 : (i * sz + j) / sz = i := by rw [Nat.mul_comm, Nat.mul_add_div (by omega), Nat.div_eq_of_lt hj, Nat.add_zero]
  have h2 : (i * sz + j) % sz = j := by rw [Nat.mul_comm, Nat.mul_add_mod, Nat.mod_eq_of_lt hj]
  simp [arrV, hlt, h1, h2]
theorem size_arrV (ids : Nat → Nat) (sz n : Nat) (cell : Nat → Nat → SV) : (arrV ids sz n cell).size = n * sz := by simp [arrV]
theorem cell_arr {w : World} {H : Hp} {F : List (Nat × Obj)} (hw : OwnL w (H.den ++ F)) {k b : Nat} {ty sz n : Nat} {cell : Nat → Nat → SV} (h : nthO H k = some (b, some (.arr ty sz n cell))) {i j : Nat} (hi : i < n) (hj : j < sz) :
    w.cell? ⟨H.ids k, i * sz + j, none⟩ = some ((cell i j).den H.ids) := by
  rw [ids_of h]
  rw [cell_of_heap (own_obj hw h (x := (b, .cells (arrV H.ids sz n cell) ty)) (by simp only [SO.den]; rw [if_neg (by omega)]; simp)) _]
  exact arrV_get _ cell hi hj
theorem isAggT_true {P : Program} {t : TypeId} (h : isAggT P t = some true) : ∃ d, P.underlying t = some d := by
  unfold isAggT at h; cases hu : P.underlying t with | none => simp [hu] at h | some d => exact ⟨d, rfl⟩
theorem loadVar_agg {P : Program} {t : TypeId} (h : isAggT P t = some true) {w : World} {b off : Nat} {l : List Value} (hl : l.length = P.cellsOf t) (hc : ∀ j v, l[j]? = some v → w.cell? ⟨b, off + j, none⟩ = some v) :
    (loadVar t ⟨b, off, none⟩).run P w = .ok (.agg l.toArray) w := by
  obtain ⟨d, hu⟩ := isAggT_true h
  have := run_loadCells_list (P := P) w ⟨b, off, none⟩ l (fun j v hv => by rw [addr_add]; exact hc j v hv)
  rw [hl] at this
  simp only [loadVar, Sem.run_bind, isAggT_run h, Result.andThen_ok, if_true, sizeOf_run hu, this, Sem.run_pure]
theorem loadVar_one {P : Program} {t : TypeId} (h : isAggT P t = some false) {w : World} {b off : Nat} {v : Value} (hc : w.cell? ⟨b, off, none⟩ = some v) :
    (loadVar t ⟨b, off, none⟩).run P w = .ok v w := by
  simp only [loadVar, Sem.run_bind, isAggT_run h, Result.andThen_ok, Bool.false_eq_true, if_false, run_load, hc]
theorem length_cellsOf (cell : Nat → SV) : ∀ (n j : Nat), (cellsOf cell j n).length = n
  | 0, _ => rfl
  | n + 1, j => by simp [cellsOf, length_cellsOf cell n (j + 1)]
theorem get_cellsOf (cell : Nat → SV) : ∀ (n j i : Nat), i < n → (cellsOf cell j n)[i]? = some (cell (j + i))
  | 0, _, _, h => by omega
  | n + 1, j, 0, _ => by simp [cellsOf]
  | n + 1, j, i + 1, h => by simp only [cellsOf, List.getElem?_cons_succ]; rw [get_cellsOf cell n (j + 1) i (by omega)]; congr 2; omega

theorem loadCs_sound {P : Program} {H : Hp} {t : TypeId} {agg : Bool} (hagg : isAggT P t = some agg) {k b off : Nat} {cs : List SV} {v : SV} {vc : Prop} (h : loadCs P t agg cs off = some (v, vc)) {o : SO} (hk : nthO H k = some (b, some o)) (ho : (∃ ty, o = .cells cs ty) ∨ ∃ tl m mx es fz fb ty, o = .row cs tl m mx es fz fb ty)
    (hok : H.ok) {w : World} {F : List (Nat × Obj)} (hw : OwnL w (H.den ++ F)) : (loadVar t ⟨H.ids k, off, none⟩).run P w = .ok (v.den H.ids) w ∧ v.ok H.length H.ids := by
  have hcs : SV.oks H.length H.ids cs ∧ cs.all SV.one = true := by
    have := hok k b _ hk
    rcases ho with ⟨ty, rfl⟩ | ⟨tl, m, mx, es, fz, fb, ty, rfl⟩
    · exact this
    · exact this.1
  have hcell := cells_get hw hk ho
  cases agg
  · simp only [loadCs] at h
    split at h
    · rename_i x hx
      simp only [Option.some.injEq, Prod.mk.injEq] at h
      obtain ⟨rfl, rfl⟩ := h
      rw [nthO_eq] at hx
      exact ⟨loadVar_one hagg (hcell _ _ hx), (oks_iff _ _ _).1 hcs.1 _ (List.mem_of_getElem? hx)⟩
    · simp at h
  · simp only [loadCs] at h
    split at h
    · rename_i l hl
      simp only [Option.some.injEq, Prod.mk.injEq] at h
      obtain ⟨rfl, rfl⟩ := h
      obtain ⟨h1, h2⟩ := sub_spec hl
      have hmem : ∀ x ∈ l, x ∈ cs := by
        intro x hx
        obtain ⟨j, hj, rfl⟩ := List.getElem_of_mem hx
        have := h2 j (by omega)
        rw [List.getElem?_eq_getElem hj] at this
        exact List.mem_of_getElem? this
      refine ⟨?_, (oks_iff _ _ _).2 fun x hx => (oks_iff _ _ _).1 hcs.1 x (hmem x hx), List.all_eq_true.2 fun x hx => List.all_eq_true.1 hcs.2 x (hmem x hx)⟩
      simp only [SV.den]
      refine loadVar_agg hagg (by simp [dens_eq, h1]) fun j v hv => ?_
      rw [dens_eq, List.getElem?_map] at hv
      have hj : j < P.cellsOf t := by
        rcases Nat.lt_or_ge j (P.cellsOf t) with h | h
        · exact h
        · rw [List.getElem?_eq_none (by omega)] at hv; simp at hv
      cases hx : l[j]? with
      | none => rw [hx] at hv; simp at hv
      | some y =>
        rw [hx] at hv
        simp only [Option.map_some, Option.some.injEq] at hv; subst hv
        exact hcell _ _ (by rw [h2 j hj, hx])
    · simp at h
theorem loadArr_sound {P : Program} {H : Hp} {t : TypeId} {agg : Bool} (hagg : isAggT P t = some agg) {k b sz n i j : Nat} {cell : Nat → Nat → SV} {ty : TypeId} {v : SV} {vc : Prop} (h : loadArr P t agg sz n cell i j = some (v, vc)) (hvc : vc) (hk : nthO H k = some (b, some (.arr ty sz n cell)))
    (hok : H.ok) {w : World} {F : List (Nat × Obj)} (hw : OwnL w (H.den ++ F)) : (loadVar t ⟨H.ids k, i * sz + j, none⟩).run P w = .ok (v.den H.ids) w ∧ v.ok H.length H.ids := by
  have hcs := hok k b _ hk
  cases agg
  · simp only [loadArr] at h
    split at h
    · rename_i hlt
      have hlt := Nat.le_of_ble_eq_true hlt
      simp only [Option.some.injEq, Prod.mk.injEq] at h
      obtain ⟨rfl, rfl⟩ := h
      exact ⟨loadVar_one hagg (cell_arr hw hk hvc hlt), (hcs i hvc j hlt).1⟩
    · simp at h
  · simp only [loadArr] at h
    split at h
    · rename_i hle
      have hle := Nat.le_of_ble_eq_true hle
      simp only [Option.some.injEq, Prod.mk.injEq] at h
      obtain ⟨rfl, rfl⟩ := h
      have hall : ∀ x ∈ cellsOf (cell i) j (P.cellsOf t), x.ok H.length H.ids ∧ x.one = true := by
        intro x hx
        obtain ⟨q, hq, rfl⟩ := List.getElem_of_mem hx
        have hq' : q < P.cellsOf t := by simpa [length_cellsOf] using hq
        have e := get_cellsOf (cell i) (P.cellsOf t) j q hq'
        rw [List.getElem?_eq_getElem hq] at e
        simp only [Option.some.injEq] at e
        rw [e]
        exact hcs i hvc (j + q) (by omega)
      refine ⟨?_, (oks_iff _ _ _).2 fun x hx => (hall x hx).1, List.all_eq_true.2 fun x hx => (hall x hx).2⟩
      simp only [SV.den]
      refine loadVar_agg hagg (by simp [dens_eq, length_cellsOf]) fun q v hv => ?_
      rw [dens_eq, List.getElem?_map] at hv
      have hq : q < P.cellsOf t := by
        rcases Nat.lt_or_ge q (P.cellsOf t) with h | h
        · exact h
        · rw [List.getElem?_eq_none (by rw [length_cellsOf]; omega)] at hv; simp at hv
      rw [get_cellsOf _ _ _ _ hq] at hv
      simp only [Option.map_some, Option.some.injEq] at hv
      rw [Nat.add_assoc, cell_arr hw hk hvc (by omega), hv]
    · simp at h
theorem loadQ_sound {P : Program} {H : Hp} {t : TypeId} {x v : SV} {vc : Prop} (h : loadQ P H t x = some (v, vc)) (hvc : vc) (hok : H.ok) {w : World} {F : List (Nat × Obj)} (hw : OwnL w (H.den ++ F)) :
    (∃ a, x.den H.ids = .pointer (some a) ∧ (loadVar t a).run P w = .ok (v.den H.ids) w) ∧ v.ok H.length H.ids := by
  unfold loadQ at h
  split at h
  · simp at h
  · rename_i agg hagg
    split at h
    · split at h
      · rename_i hk
        split at h
        · have := loadCs_sound hagg h hk (.inl ⟨_, rfl⟩) hok hw
          exact ⟨⟨_, by simp only [SV.den], this.1⟩, this.2⟩
        · have := loadCs_sound hagg h hk (.inr ⟨_, _, _, _, _, _, _, rfl⟩) hok hw
          exact ⟨⟨_, by simp only [SV.den], this.1⟩, this.2⟩
        · simp at h
      · simp at h
    · split at h
      · rename_i hk
        split at h
        · split at h
          · rename_i hsz
            have := Nat.eq_of_beq_eq_true hsz
            subst this
            have := loadArr_sound hagg h hvc hk hok hw
            exact ⟨⟨_, by simp only [SV.den], this.1⟩, this.2⟩
          · simp at h
        · have := loadCs_sound hagg h hk (.inl ⟨_, rfl⟩) hok hw
          exact ⟨⟨_, by simp only [SV.den], this.1⟩, this.2⟩
        · have := loadCs_sound hagg h hk (.inr ⟨_, _, _, _, _, _, _, rfl⟩) hok hw
          exact ⟨⟨_, by simp only [SV.den], this.1⟩, this.2⟩
        · simp at h
      · simp at h
    · simp at h
end Go.Sx
