import Derived.Test.YtaalpiacinifkaaGreatDoorS6
/- Part of the proof that ForwardNone of law 21 returns true whatever it is called with. No condition. -/
set_option linter.all false
/- The executor 'Fx': small functions, by recursors (the kernel is quick at these). -/
namespace Go.Fx
open Go Go.Sx

section
variable {α β : Type}
noncomputable def tget (t : Tr α) (n : Nat) : Option α :=
  Tr.rec (motive := fun _ => Nat → Option α) (fun _ => none)
    (fun _ x _ ihl ihr n => Nat.rec (motive := fun _ => Option α) x
      (fun m _ => Bool.rec (motive := fun _ => Option α) (ihr (Nat.div m 2)) (ihl (Nat.div m 2)) (Nat.beq (Nat.mod m 2) 0)) n) t n
/-- A row laid at i. -/
noncomputable def tset (f : Nat) (t : Tr α) (i : Nat) (y : α) : Tr α :=
  Nat.rec (motive := fun _ => Tr α → Nat → Tr α) (fun _ _ => .e)
    (fun _ ih t i => Nat.rec (motive := fun _ => Tr α)
      (Tr.rec (motive := fun _ => Tr α) (.n .e (some y) .e) (fun l _ r _ _ => .n l (some y) r) t)
      (fun m _ => Bool.rec (motive := fun _ => Tr α)
        (Tr.rec (motive := fun _ => Tr α) (.n .e none (ih .e (Nat.div m 2))) (fun l x r _ _ => .n l x (ih r (Nat.div m 2))) t)
        (Tr.rec (motive := fun _ => Tr α) (.n (ih .e (Nat.div m 2)) none .e) (fun l x r _ _ => .n (ih l (Nat.div m 2)) x r) t)
        (Nat.beq (Nat.mod m 2) 0)) i) f t i
noncomputable def tput (t : Tr α) (i : Nat) (y : α) : Tr α :=
  Bool.rec (motive := fun _ => Tr α) .e (tset 13 t i y) (Nat.ble i 4000)
noncomputable def lget (l : List α) (n : Nat) : Option α :=
  List.rec (motive := fun _ => Nat → Option α) (fun _ => none) (fun x _ ih n => Nat.rec (motive := fun _ => Option α) (some x) (fun m _ => ih m) n) l n
noncomputable def lset (l : List α) (n : Nat) (y : α) : List α :=
  List.rec (motive := fun _ => Nat → List α) (fun _ => []) (fun x r ih n => Nat.rec (motive := fun _ => List α) (y :: r) (fun m _ => x :: ih m) n) l n
noncomputable def llen (l : List α) : Nat := List.rec (motive := fun _ => Nat → Nat) (fun n => n) (fun _ _ ih n => ih (Nat.succ n)) l 0
noncomputable def lapp (l m : List α) : List α := List.rec (motive := fun _ => List α) m (fun x _ ih => x :: ih) l
noncomputable def ldrop (l : List α) (n : Nat) : List α :=
  List.rec (motive := fun _ => Nat → List α) (fun _ => []) (fun x r ih n => Nat.rec (motive := fun _ => List α) (x :: r) (fun m _ => ih m) n) l n
noncomputable def ltake (l : List α) (n : Nat) : List α :=
  List.rec (motive := fun _ => Nat → List α) (fun _ => []) (fun x _ ih n => Nat.rec (motive := fun _ => List α) [] (fun m _ => x :: ih m) n) l n
noncomputable def lmap (f : α → β) (l : List α) : List β := List.rec (motive := fun _ => List β) [] (fun x _ ih => f x :: ih) l
noncomputable def lall (f : α → Bool) (l : List α) : Bool := List.rec (motive := fun _ => Bool) true (fun x _ ih => Bool.rec (motive := fun _ => Bool) false ih (f x)) l
noncomputable def lrep (x : α) (n : Nat) (t : List α) : List α := Nat.rec (motive := fun _ => List α) t (fun _ ih => x :: ih) n
/-- A list, folded from its end. -/
noncomputable def lrec (z : β) (f : α → List α → β → β) (l : List α) : β := List.rec (motive := fun _ => β) z f l
noncomputable def nrec (z : β) (f : Nat → β → β) (n : Nat) : β := Nat.rec (motive := fun _ => β) z f n
end
end Go.Fx

/- The executor 'Fx': closed values, objects, states; what an operation yields. -/
namespace Go.Fx
open Go Go.Sx
noncomputable section

inductive FV where
  | int (l : Bool) (k : IntKind) (x : Int)
  | bool (l : Bool) (b : Bool)
  | str (n len : Nat)
  | ptr (k off : Nat)
  | elt (k i sz j : Nat)
  | nil
  | sl (k sz lo : Nat) (off : Option Nat) (len n : Nat) (op : Bool)
  | mapp (k : Nat)
  | nilmap
  | agg (cs : List FV)
  | tup (cs : List FV)
  | fn (f : Fn) (first captured : List FV)
  | ifc (t : TypeId) (x : FV)
  | undef
  | any (x : Value)
  deriving Inhabited
/-- Cells: a list, or bytes (a number, to the base 256, and how many). -/
inductive FC where
  | l (cs : List FV)
  | b (n len : Nat)
inductive FO where
  | cells (c : FC) (ty : TypeId)
  | row (c : FC) (d : Option Nat) (m : Nat) (op : Bool) (es : Nat) (zo : Bool) (fz : List (Nat × Nat)) (fb : Nat) (ty : TypeId)
  | mapc (es : List (FV × FV × Nat)) (clock : Nat)
  | iterc (m : Option Nat) (since : Nat) (seen : List Nat) (last : Nat)
abbrev FE := Option Nat × Option FO
structure FH where
  n : Nat
  t : Tr FE
abbrev FFr := Tr FV
structure FF where
  fn : Nat
  nt : Nat
  fr : FFr
  todo : List SItem
structure FSt where
  H : FH
  top : FF
  stk : List FF

def hget (h : FH) (k : Nat) : Option FE :=
  match Nat.blt k h.n with
  | true => match tget h.t k with | some e => some e | none => some (none, none)
  | false => none
def hset (h : FH) (k : Nat) (e : FE) : FH := ⟨h.n, tset 20 h.t k e⟩
def hpush (h : FH) (o : FO) : FH := ⟨Nat.succ h.n, tset 20 h.t h.n (none, some o)⟩

/-! ### Whole numbers -/
def uwrap (b : Nat) (x : Int) : Nat :=
  match x with
  | .ofNat m => Nat.mod m b
  | .negSucc m => Nat.sub (Nat.sub b 1) (Nat.mod m b)
def swrap (b h : Nat) (x : Int) : Int :=
  match x with
  | .ofNat m => match Nat.blt m h with
    | true => .ofNat m
    | false => match Nat.blt (Nat.mod m b) h with
      | true => .ofNat (Nat.mod m b)
      | false => .negSucc (Nat.sub (Nat.sub b 1) (Nat.mod m b))
  | .negSucc m => match Nat.blt m h with
    | true => .negSucc m
    | false => match Nat.blt (Nat.sub (Nat.sub b 1) (Nat.mod m b)) h with
      | true => .ofNat (Nat.sub (Nat.sub b 1) (Nat.mod m b))
      | false => .negSucc (Nat.mod m b)
def fwrap (k : IntKind) (x : Int) : Int :=
  match k with
  | .i64 => swrap 18446744073709551616 9223372036854775808 x
  | .u8 => .ofNat (uwrap 256 x)
  | .u16 => .ofNat (uwrap 65536 x)
  | .u32 => .ofNat (uwrap 4294967296 x)
  | .u64 => .ofNat (uwrap 18446744073709551616 x)
  | .i8 => swrap 256 128 x
  | .i16 => swrap 65536 32768 x
  | .i32 => swrap 4294967296 2147483648 x
def iblt (a b : Int) : Bool :=
  match a with
  | .ofNat m => match b with
    | .ofNat n => Nat.blt m n
    | .negSucc _ => false
  | .negSucc m => match b with
    | .ofNat _ => true
    | .negSucc n => Nat.blt n m
def ieq (a b : Int) : Bool :=
  match a with
  | .ofNat m => match b with
    | .ofNat n => Nat.beq m n
    | .negSucc _ => false
  | .negSucc m => match b with
    | .ofNat _ => false
    | .negSucc n => Nat.beq m n
def bnot (b : Bool) : Bool := match b with | true => false | false => true
def band (a b : Bool) : Bool := match a with | true => b | false => false
def bor (a b : Bool) : Bool := match a with | true => true | false => b
def beqB (a b : Bool) : Bool := match a with | true => b | false => bnot b
def minN (a b : Nat) : Nat := match Nat.ble a b with | true => a | false => b
def maxN (a b : Nat) : Nat := match Nat.ble a b with | true => b | false => a
def bitsP (k : IntKind) : Nat :=
  match k with
  | .i8 | .u8 => 256
  | .i16 | .u16 => 65536
  | .i32 | .u32 => 4294967296
  | .i64 | .u64 => 18446744073709551616
def fbit (f : Nat → Nat → Nat) (l : Bool) (k : IntKind) (a b : Int) : Option FV :=
  match a with
  | .ofNat m => match b with
    | .ofNat n => some (.int l k (fwrap k (.ofNat (f (Nat.mod m (bitsP k)) (Nat.mod n (bitsP k))))))
    | _ => none
  | _ => none
def fbinI (op : BinOp) (l : Bool) (k k' : IntKind) (a b : Int) : Option FV :=
  match op with
  | .shl => match a with
    | .ofNat m => match b with
      | .ofNat n => some (.int l k (fwrap k (.ofNat (Nat.mul m (Nat.pow 2 (minN n k.bits))))))
      | _ => none
    | _ => none
  | .shr => match b with
    | .ofNat n => match a with
      | .ofNat m => some (.int l k (.ofNat (Nat.div m (Nat.pow 2 (minN n k.bits)))))
      | .negSucc m => some (.int l k (.negSucc (Nat.div m (Nat.pow 2 (minN n k.bits)))))
    | _ => none
  | op => match kEq k k' with
    | false => none
    | true => match op with
      | .add => some (.int l k (fwrap k (Int.add a b)))
      | .sub => some (.int l k (fwrap k (Int.sub a b)))
      | .mul => some (.int l k (fwrap k (Int.mul a b)))
      | .quo => match a with
        | .ofNat m => match b with
          | .ofNat (n + 1) => some (.int l k (fwrap k (.ofNat (Nat.div m (Nat.succ n)))))
          | _ => none
        | _ => none
      | .rem => match a with
        | .ofNat m => match b with
          | .ofNat (n + 1) => some (.int l k (.ofNat (Nat.mod m (Nat.succ n))))
          | _ => none
        | _ => none
      | .and => fbit Nat.land l k a b
      | .or => fbit Nat.lor l k a b
      | .xor => fbit Nat.xor l k a b
      | .eql => some (.bool l (ieq a b))
      | .neq => some (.bool l (bnot (ieq a b)))
      | .lss => some (.bool l (iblt a b))
      | .leq => some (.bool l (bnot (iblt b a)))
      | .gtr => some (.bool l (iblt b a))
      | .geq => some (.bool l (bnot (iblt a b)))
      | _ => none

/-! ### Texts -/
def catN (a la b : Nat) : Nat := Nat.add (Nat.mod a (Nat.pow 256 la)) (Nat.mul b (Nat.pow 256 la))
def eqN (a la b lb : Nat) : Bool :=
  match Nat.beq la lb with
  | true => Nat.beq (Nat.mod a (Nat.pow 256 la)) (Nat.mod b (Nat.pow 256 la))
  | false => false
def byteN (n i : Nat) : Nat := Nat.mod (Nat.div n (Nat.pow 256 i)) 256
/-- n bytes from place o on. -/
def cutN (n o m : Nat) : Nat := Nat.mod (Nat.div n (Nat.pow 256 o)) (Nat.pow 256 m)
/-- Is a text ahead of another one? -/
def lessN (f : Nat) (a la b lb : Nat) : Bool :=
  nrec (fun _ _ _ _ => false) (fun _ ih a la b lb => match lb with
    | 0 => false
    | lb + 1 => match la with
      | 0 => true
      | la + 1 => match Nat.blt (Nat.mod a 256) (Nat.mod b 256) with
        | true => true
        | false => match Nat.beq (Nat.mod a 256) (Nat.mod b 256) with
          | true => ih (Nat.div a 256) la (Nat.div b 256) lb
          | false => false) f a la b lb
def fbinS (op : BinOp) (a la b lb : Nat) : Option FV :=
  match op with
  | .add => match Nat.blt (Nat.add la lb) 9223372036854775808 with
    | true => some (.str (catN a la b) (Nat.add la lb))
    | false => none
  | .eql => some (.bool false (eqN a la b lb))
  | .neq => some (.bool false (bnot (eqN a la b lb)))
  | .lss => some (.bool false (lessN (Nat.succ la) a la b lb))
  | .leq => some (.bool false (bor (lessN (Nat.succ la) a la b lb) (eqN a la b lb)))
  | .gtr => some (.bool false (bnot (bor (lessN (Nat.succ la) a la b lb) (eqN a la b lb))))
  | .geq => some (.bool false (bnot (lessN (Nat.succ la) a la b lb)))
  | _ => none
def natOf (l : List UInt8) : Nat := lrec 0 (fun b _ ih => Nat.add b.toNat (Nat.mul 256 ih)) l

/-! ### Cells -/
def fone (x : FV) : Bool := match x with | .agg _ | .tup _ | .undef => false | _ => true
def byteV (n i : Nat) : FV := .int true .u8 (.ofNat (byteN n i))
def unpack (n len : Nat) : List FV := nrec (fun _ => []) (fun _ ih n => .int true .u8 (.ofNat (Nat.mod n 256)) :: ih (Nat.div n 256)) len n
def cLen (c : FC) : Nat := match c with | .l cs => llen cs | .b _ len => len
def cList (c : FC) : List FV := match c with | .l cs => cs | .b n len => unpack n len
def cGet (c : FC) (i : Nat) : Option FV :=
  match c with
  | .l cs => lget cs i
  | .b n len => match Nat.blt i len with | true => some (byteV n i) | false => none
def cSub (c : FC) (o m : Nat) : Option FC :=
  match Nat.ble (Nat.add o m) (cLen c) with
  | true => match c with
    | .l cs => some (.l (ltake (ldrop cs o) m))
    | .b n _ => some (.b (cutN n o m) m)
  | false => none
/-- One byte, as a number. -/
def byte1 (l : List FV) : Option Nat :=
  match l with
  | [.int true .u8 (.ofNat v)] => match Nat.blt v 256 with | true => some v | false => none
  | _ => none
def cLay (n o v m : Nat) : Nat := Nat.add (Nat.add (Nat.mod n (Nat.pow 256 o)) (Nat.mul (Nat.mod v (Nat.pow 256 m)) (Nat.pow 256 o))) (Nat.mul (Nat.div n (Nat.pow 256 (Nat.add o m))) (Nat.pow 256 (Nat.add o m)))
def packW (w : FC) : Option (Nat × Nat) :=
  match w with
  | .b v m => some (v, m)
  | .l l => match byte1 l with | some v => some (v, 1) | none => none
def overL (cs : List FV) (o : Nat) (ys : List FV) : List FV := lapp (ltake cs o) (lapp ys (ldrop cs (Nat.add o (llen ys))))
def cOver (c : FC) (o : Nat) (w : FC) : Option FC :=
  match Nat.ble (Nat.add o (cLen w)) (cLen c) with
  | true => match c with
    | .l cs => some (.l (overL cs o (cList w)))
    | .b n len => match packW w with
      | some (v, m) => some (.b (cLay n o v m) len)
      | none => some (.l (overL (unpack n len) o (cList w)))
  | false => none
/-- The first o cells, and others behind. -/
def cApp (c : FC) (o : Nat) (w : FC) : FC :=
  match c with
  | .l cs => match cs with
    | [] => w
    | _ => .l (lapp (ltake cs o) (cList w))
  | .b n len => match packW w with
    | some (v, m) => .b (catN (cutN n 0 (minN o len)) (minN o len) (Nat.mod v (Nat.pow 256 m))) (Nat.add (minN o len) m)
    | none => .l (lapp (ltake (unpack n len) o) (cList w))
def fcOf (o : FO) : Option FC := match o with | .cells c _ => some c | .row c _ _ _ _ _ _ _ _ => some c | _ => none

/-! ### Constants -/
def fcst1 (x : Value) : FV :=
  match x with
  | .int k n => .int true k n
  | .bool t => .bool true t
  | .string s => .str (natOf s.data.toList) (llen s.data.toList)
  | .pointer none => .nil
  | .slice none 0 0 => .sl 0 0 0 none 0 0 false
  | .map none => .nilmap
  | x => .any x
def fcst (x : Value) : Option FV :=
  match x with
  | .agg cs => match lall cellB cs.toList with | true => some (.agg (lmap fcst1 cs.toList)) | false => none
  | .tuple _ => none
  | x => some (fcst1 x)
def fglob (h : FH) (g : Nat) (gl : List (Nat × Nat)) : Option FV :=
  lrec none (fun p _ ih => match Nat.beq p.1 g with
    | true => match hget h p.2 with
      | some (some blk, _) => match Nat.beq blk g with | true => some (.ptr p.2 0) | false => none
      | _ => none
    | false => ih) gl
structure FCfg where
  P : Program
  globs : List (Nat × Nat)
  stops : List Nat
  ext : List (Nat × Nat)
  u8t : Nat
  i64t : Nat
  keysFn : List Nat
  consts : List (Bool × FV)
  glob0 : List Int
  glob0t : Nat
def fopv (L : FCfg) (h : FH) (fr : FFr) (x : Operand) : Option FV :=
  match x with
  | .tmp t => tget fr t
  | .const x => fcst x
  | .global g => fglob h g L.globs
  | .func g => some (.fn (.func g) [] [])
def fopvs (L : FCfg) (h : FH) (fr : FFr) (l : List Operand) : Option (List FV) :=
  lrec (some []) (fun x _ ih => match fopv L h fr x with
    | some v => match ih with | some l => some (v :: l) | none => none
    | none => none) l
def fcells (x : FV) : Option (List FV) :=
  match x with
  | .agg cs => some cs
  | x => match fone x with | true => some [x] | false => none
def fzero (P : Program) (t : TypeId) : Option FV :=
  match P.info? t with
  | some i => match i.zero with
    | some z => fcst z
    | none => none
  | none => none
def fzeroT (P : Program) (t : TypeId) : Option (List FV) :=
  match fzero P t with
  | some x => fcells x
  | none => none

/-! ### Loads, stores -/
def loadC (P : Program) (t : TypeId) (agg : Bool) (c : FC) (off : Nat) : Option FV :=
  match agg with
  | true => match cSub c off (P.cellsOf t) with | some l => some (.agg (cList l)) | none => none
  | false => cGet c off
def loadAt (P : Program) (h : FH) (t : TypeId) (k off : Nat) : Option FV :=
  match hget h k with
  | some (_, some o) => match fcOf o with
    | some c => match isAggT P t with
      | some agg => loadC P t agg c off
      | none => none
    | none => none
  | _ => none
def fload (P : Program) (h : FH) (t : TypeId) (x : FV) : Option FV :=
  match x with
  | .ptr k off => loadAt P h t k off
  | .elt k i sz j => loadAt P h t k (Nat.add (Nat.mul i sz) j)
  | _ => none
def storeAt (h : FH) (k off : Nat) (l : List FV) : Option FH :=
  match hget h k with
  | some (b, some (.cells c ty)) => match cOver c off (.l l) with
    | some c' => some (hset h k (b, some (.cells c' ty)))
    | none => none
  | some (b, some (.row c d m op es zo fz fb ty)) => match Nat.ble fb off with
    | true => match cOver c off (.l l) with
      | some c' => some (hset h k (b, some (.row c' d m op es zo fz fb ty)))
      | none => none
    | false => none
  | _ => none
def fstoreH (h : FH) (a : FV) (l : List FV) : Option FH :=
  match a with
  | .ptr k off => storeAt h k off l
  | .elt k i sz j => storeAt h k (Nat.add (Nat.mul i sz) j) l
  | _ => none
def fbuild (L : FCfg) (h : FH) (fr : FFr) (place : Nat → Option (Nat × Nat)) (cs : List FV) (ps : List (Nat × Operand)) : Option (List FV) :=
  lrec (fun cs => some cs) (fun p _ ih cs => match place p.1 with
    | some (off, size) => match fopv L h fr p.2 with
      | some v => match fcells v with
        | some l => match Nat.beq (llen l) size with
          | true => match Nat.ble (Nat.add off size) (llen cs) with
            | true => ih (overL cs off l)
            | false => none
          | false => none
        | none => none
      | none => none
    | none => none) ps cs

/-! ### Equality -/
def fpart (P : Program) (t : TypeId) (cs : List FV) (off : Nat) : Option FV :=
  match isAggT P t with
  | some true => match Nat.ble (Nat.add off (P.cellsOf t)) (llen cs) with
    | true => some (.agg (ltake (ldrop cs off) (P.cellsOf t)))
    | false => none
  | some false => lget cs off
  | none => none
def feq1 (P : Program) (t : TypeId) (x y : FV) : Option Bool :=
  match P.underlying t with
  | some (.int _) => match x with
    | .int _ k a => match y with
      | .int _ k' b => match kEq k k' with | true => some (ieq a b) | false => none
      | _ => none
    | _ => none
  | some .bool => match x with
    | .bool _ a => match y with | .bool _ b => some (beqB a b) | _ => none
    | _ => none
  | some .string => match x with
    | .str a la => match y with | .str b lb => some (eqN a la b lb) | _ => none
    | _ => none
  | _ => none
def fieldsOf (P : Program) (t : TypeId) : Option (List Field) :=
  match P.underlying t with
  | some (.struct fs) => match P.stoodInHeld t with
    | true => none
    | false => match lall (fun f => match String.decEq f.name "_" with | .isTrue _ => false | .isFalse _ => true) fs.toList with
      | true => some fs.toList
      | false => none
  | _ => none
/-- Equality of two values, of two lists of fields (to a depth). -/
def feqP (P : Program) (d : Nat) : (TypeId → FV → FV → Option Bool) × (List Field → List FV → List FV → Option Bool) :=
  nrec (β := (TypeId → FV → FV → Option Bool) × (List Field → List FV → List FV → Option Bool))
    (fun _ _ _ => none, fun fs _ _ => match fs with | [] => some true | _ :: _ => none)
    (fun _ ih => (fun t x y => match P.underlying t with
      | some (.struct _) => match fieldsOf P t with
        | some fs => match x with
          | .agg xs => match y with
            | .agg ys => ih.2 fs xs ys
            | _ => none
          | _ => none
        | none => none
      | _ => feq1 P t x y, fun fs xs ys => match fs with
      | [] => some true
      | f :: fs => match fpart P f.type xs f.offset with
        | some x => match fpart P f.type ys f.offset with
          | some y => match ih.1 f.type x y with
            | some r => match ih.2 fs xs ys with | some r' => some (band r r') | none => none
            | none => none
          | none => none
        | none => none)) d
def feqS (P : Program) (d : Nat) (t : TypeId) (x y : FV) : Option Bool := (feqP P d).1 t x y
def fliveB (h : FH) (k : Nat) : Bool :=
  match hget h k with
  | some (_, some (.cells _ _)) => true
  | _ => false
def ptrT (P : Program) (t : TypeId) : Bool :=
  match P.underlying t with
  | some (.pointer e) => band (P.underlying e).isSome (bnot (Nat.beq (P.cellsOf e) 0))
  | _ => false
def fptrQ (P : Program) (h : FH) (t : TypeId) (k o k' o' : Nat) : Option Bool :=
  match ptrT P t with
  | false => none
  | true => match Nat.beq k k' with
    | true => some (Nat.beq o o')
    | false => match band (fliveB h k) (fliveB h k') with
      | true => some false
      | false => none
def feqNil (x : FV) : Option Bool := match x with | .nil => some true | .ptr _ _ => some false | .elt _ _ _ _ => some false | _ => none
/-- x == y for what isn't two numbers or two texts (the flag: lit). -/
def feqQ (P : Program) (t : TypeId) (x y : FV) : Option (Bool × Bool) :=
  match P.underlying t with
  | some (.pointer _) => match y with
    | .nil => match feqNil x with | some r => some (true, r) | none => none
    | _ => match x with
      | .nil => match feqNil y with | some r => some (true, r) | none => none
      | _ => none
  | some (.map _ _) => match y with
    | .nilmap => match x with
      | .nilmap => some (true, true)
      | .mapp _ => some (true, false)
      | _ => none
    | _ => none
  | some (.slice _) => match y with
    | .sl _ _ _ none _ _ _ => match x with
      | .sl _ _ _ a _ _ _ => some (true, match a with | none => true | some _ => false)
      | _ => none
    | _ => none
  | _ => match P.eqGuardType P.depth t with
    | true => none
    | false => match feqS P 30 t x y with
      | some r => some (false, r)
      | none => none
def fbin (P : Program) (h : FH) (op : BinOp) (t : TypeId) (x y : FV) : Option FV :=
  match x with
  | .int l k a => match y with
    | .int l' k' b => fbinI op (band l l') k k' a b
    | _ => none
  | .str a la => match y with
    | .str b lb => fbinS op a la b lb
    | _ => none
  | .ptr k o => match y with
    | .ptr k' o' => match fptrQ P h t k o k' o' with
      | some r => match op with
        | .eql => some (.bool true r)
        | .neq => some (.bool true (bnot r))
        | _ => none
      | none => none
    | _ => match op with
      | .eql => match feqQ P t x y with | some (l, r) => some (.bool l r) | none => none
      | .neq => match feqQ P t x y with | some (l, r) => some (.bool l (bnot r)) | none => none
      | _ => none
  | _ => match op with
    | .eql => match feqQ P t x y with | some (l, r) => some (.bool l r) | none => none
    | .neq => match feqQ P t x y with | some (l, r) => some (.bool l (bnot r)) | none => none
    | _ => none
end
end Go.Fx

/- The executor 'Fx': operations. -/
namespace Go.Fx
open Go Go.Sx
noncomputable section

/-! ### What leaves the memory alone -/
def xPick (L : FCfg) (h : FH) (fr : FFr) (dec : List (Nat × Bool)) (c a b : Operand) : Option FV :=
  match (match c with | .tmp t => decB dec t | _ => none) with
  | some true => fopv L h fr a
  | some false => fopv L h fr b
  | none => match fopv L h fr c with
    | some (.bool true true) => fopv L h fr a
    | some (.bool true false) => fopv L h fr b
    | _ => none
def xBuild (L : FCfg) (h : FH) (fr : FFr) (t : TypeId) (ps : List (Nat × Operand)) : Option FV :=
  match fzeroT L.P t with
  | some z => match L.P.underlying t with
    | some (.struct fs) => match lall (fun f : Field => (L.P.info? f.type).isSome) fs.toList with
      | true => match fbuild L h fr (placeT L.P fs.toList) z ps with
        | some cs => some (.agg cs)
        | none => none
      | false => none
    | some (.array _ e) => match L.P.underlying e with
      | some _ => match fbuild L h fr (fun i => some (Nat.mul i (L.P.cellsOf e), L.P.cellsOf e)) z ps with
        | some cs => some (.agg cs)
        | none => none
      | none => none
    | _ => none
  | none => none
def xField (L : FCfg) (h : FH) (fr : FFr) (t : TypeId) (x : Operand) (i : Nat) : Option FV :=
  match fopv L h fr x with
  | some (.agg cs) => match fieldT L.P t i with
    | some (off, _, ft) => fpart L.P ft cs off
    | none => none
  | _ => none
def xFieldAddr (L : FCfg) (h : FH) (fr : FFr) (t : TypeId) (x : Operand) (i : Nat) : Option FV :=
  match fieldT L.P t i with
  | some (off, size, _) => match Nat.beq size 0 with
    | true => none
    | false => match fopv L h fr x with
      | some (.ptr k o) => some (.ptr k (Nat.add o off))
      | some (.elt k e sz j) => some (.elt k e sz (Nat.add j off))
      | _ => none
  | none => none
def xIndexAddr (L : FCfg) (h : FH) (fr : FFr) (t : TypeId) (x i : Operand) : Option FV :=
  match fopv L h fr i with
  | some (.int _ _ (.ofNat a)) => match L.P.underlying t with
    | some (.array len e) => match L.P.underlying e with
      | none => none
      | some _ => match fopv L h fr x with
        | some (.ptr k 0) => match Nat.blt a len with
          | true => some (.elt k a (L.P.cellsOf e) 0)
          | false => none
        | _ => none
    | some (.slice e) => match L.P.underlying e with
      | none => none
      | some _ => match fopv L h fr x with
        | some (.sl k sz lo _ len _ _) => match Nat.beq sz (L.P.cellsOf e) with
          | true => match Nat.blt a len with
            | true => some (.elt k (Nat.add lo a) sz 0)
            | false => none
          | false => none
        | _ => none
    | _ => none
  | _ => none
def isStrT (P : Program) (t : TypeId) : Bool := match P.underlying t with | some .string => true | _ => false
def xIndex (L : FCfg) (h : FH) (fr : FFr) (t : TypeId) (x i : Operand) : Option FV :=
  match fopv L h fr i with
  | some (.int _ _ (.ofNat a)) => match isStrT L.P t with
    | true => match fopv L h fr x with
      | some (.str n len) => match Nat.blt a len with
        | true => some (.int false .u8 (.ofNat (byteN n a)))
        | false => none
      | _ => none
    | false => none
  | _ => none
def optN (L : FCfg) (h : FH) (fr : FFr) (d : Nat) (x : Option Operand) : Option Nat :=
  match x with
  | none => some d
  | some x => match fopv L h fr x with
    | some (.int _ _ (.ofNat a)) => some a
    | _ => none
def sliceElem (P : Program) (t : TypeId) : Option TypeId :=
  match P.underlying t with
  | some (.slice e) => match P.underlying e with | some _ => some e | none => none
  | _ => none
def xSlice (L : FCfg) (h : FH) (fr : FFr) (t : TypeId) (x : Operand) (lo hi mx : Option Operand) : Option FV :=
  match fopv L h fr x with
  | some (.str n len) => match isStrT L.P t with
    | true => match mx with
      | none => match optN L h fr 0 lo with
        | some a => match optN L h fr len hi with
          | some c => match band (Nat.ble a c) (Nat.ble c len) with
            | true => some (.str (cutN n a (Nat.sub c a)) (Nat.sub c a))
            | false => none
          | none => none
        | none => none
      | some _ => none
    | false => none
  | some (.sl k sz f ad len n op) => match sliceElem L.P t with
    | some e => match bor (Nat.beq sz (L.P.cellsOf e)) (band (Nat.beq n 0) (bnot op)) with
      | true => match optN L h fr n mx with
        | some m => match optN L h fr len hi with
          | some hh => match optN L h fr 0 lo with
            | some a => match band (bnot (band mx.isSome hi.isNone)) (band (Nat.ble a hh) (band (Nat.ble hh m) (Nat.ble m n))) with
              | false => none
              | true => match mx with
                | none => match op with
                  | false => some (.sl k (L.P.cellsOf e) (Nat.add f a) (match ad with
                      | none => none
                      | some p => match Nat.beq m a with | true => some p | false => some (Nat.add p (Nat.mul a (L.P.cellsOf e)))) (Nat.sub hh a) (Nat.sub n a) false)
                  | true => match bor (Nat.beq a 0) (Nat.blt a n) with
                    | true => some (.sl k (L.P.cellsOf e) (Nat.add f a) (match ad with
                        | none => none
                        | some p => some (Nat.add p (Nat.mul a (L.P.cellsOf e)))) (Nat.sub hh a) (Nat.sub n a) true)
                    | false => none
                | some _ => some (.sl k (L.P.cellsOf e) (Nat.add f a) (match ad with
                    | none => none
                    | some p => match Nat.beq m a with | true => some p | false => some (Nat.add p (Nat.mul a (L.P.cellsOf e)))) (Nat.sub hh a) (Nat.sub m a) false)
            | none => none
          | none => none
        | none => none
      | false => none
    | none => none
  | _ => none
def xNilCheck (L : FCfg) (h : FH) (fr : FFr) (x : Operand) : Option FV :=
  match fopv L h fr x with
  | some (.ptr k o) => some (.ptr k o)
  | some (.elt k i sz j) => some (.elt k i sz j)
  | some (.fn (.func g) l c) => some (.fn (.func g) l c)
  | _ => none
def xUnOp (L : FCfg) (h : FH) (fr : FFr) (o : UnOp) (x : Operand) : Option FV :=
  match fopv L h fr x with
  | some v => match o with
    | .not => match v with | .bool l b => some (.bool l (bnot b)) | _ => none
    | .neg => match v with | .int l k a => some (.int l k (fwrap k (Int.sub (.ofNat 0) a))) | _ => none
    | .xor => match v with
      | .int l k (.ofNat m) => match k with
        | .u8 => some (.int l k (.ofNat (Nat.sub 255 (Nat.mod m 256))))
        | .u32 => some (.int l k (.ofNat (Nat.sub 4294967295 (Nat.mod m 4294967296))))
        | .u64 => some (.int l k (.ofNat (Nat.sub 18446744073709551615 (Nat.mod m 18446744073709551616))))
        | _ => none
      | _ => none
    | _ => none
  | none => none
def intT (P : Program) (t : TypeId) : Option IntKind := match P.underlying t with | some (.int k) => some k | _ => none
def xConvert (L : FCfg) (h : FH) (fr : FFr) (s d : TypeId) (x : Operand) : Option FV :=
  match fopv L h fr x with
  | some (.int l _ a) => match L.P.underlying s with
    | none => none
    | some _ => match intT L.P d with
      | some k => some (.int l k (fwrap k a))
      | none => none
  | some (.str n len) => match L.P.underlying s with
    | none => none
    | some _ => match isStrT L.P d with
      | true => some (.str n len)
      | false => none
  | _ => none
def plainIface (P : Program) (t : TypeId) : Bool := match P.underlying t with | some (.interface _) => false | some _ => true | none => false
def xMakeInterface (L : FCfg) (h : FH) (fr : FFr) (t : TypeId) (x : Operand) : Option FV :=
  match plainIface L.P t with
  | true => match fopv L h fr x with | some v => some (.ifc t v) | none => none
  | false => none
def xMakeFunc (L : FCfg) (h : FH) (fr : FFr) (f : Fn) (l c : List Operand) : Option FV :=
  match fopvs L h fr l with
  | some l => match fopvs L h fr c with
    | some c => some (.fn f l c)
    | none => none
  | none => none
def xExtract (L : FCfg) (h : FH) (fr : FFr) (x : Operand) (i : Nat) : Option FV :=
  match fopv L h fr x with
  | some (.tup l) => lget l i
  | _ => none
def ffound (P : Program) (e : TypeId) (ok : Bool) (r : Option FV) : Option FV :=
  match r with
  | some v => some (match ok with | true => .tup [v, .bool true true] | false => v)
  | none => match fzero P e with
    | some z => some (match ok with | true => .tup [z, .bool true false] | false => z)
    | none => none
/-- A key among a map's: its place, the key as it stands there, its value. -/
def ffind (P : Program) (kt : TypeId) (key : FV) (es : List (FV × FV × Nat)) : Option (Option (Nat × FV × FV)) :=
  lrec (β := Nat → Option (Option (Nat × FV × FV))) (fun _ => some none) (fun e _ ih i => match feqS P 30 kt key e.1 with
    | some true => some (some (i, e.1, e.2.1))
    | some false => ih (Nat.succ i)
    | none => none) es 0
def fckF (P : Program) (fs : List Field) (xs : List FV) : Bool :=
  lall (fun f => band (plainT P f.type) (match fpart P f.type xs f.offset with | some _ => true | none => false)) fs
def fckT (P : Program) (kt : TypeId) (key : FV) : Bool :=
  match P.underlying kt with
  | some (.struct fs) => match key with
    | .agg xs => fckF P fs.toList xs
    | _ => false
  | _ => plainT P kt
def mapKV (P : Program) (t : TypeId) : Option (TypeId × TypeId) := match P.underlying t with | some (.map kt e) => some (kt, e) | _ => none
def xLookup (L : FCfg) (h : FH) (fr : FFr) (t : TypeId) (x ix : Operand) (ok : Bool) : Option FV :=
  match mapKV L.P t with
  | some (kt, e) => match fopv L h fr ix with
    | some key => match fckT L.P kt key with
      | true => match fopv L h fr x with
        | some (.mapp k) => match hget h k with
          | some (_, some (.mapc es _)) => match ffind L.P kt key es with
            | some (some (_, _, v)) => ffound L.P e ok (some v)
            | some none => ffound L.P e ok none
            | none => none
          | _ => none
        | _ => none
      | false => none
    | none => none
  | none => none
def xLen (L : FCfg) (h : FH) (t : TypeId) (x : FV) : Option FV :=
  match x with
  | .str _ len => match isStrT L.P t with | true => some (.int false .i64 (.ofNat len)) | false => none
  | .sl _ _ _ _ len _ _ => match L.P.underlying t with | some (.slice _) => some (.int false .i64 (.ofNat len)) | _ => none
  | .mapp k => match mapKV L.P t with
    | some _ => match hget h k with
      | some (_, some (.mapc es _)) => some (.int false .i64 (.ofNat (llen es)))
      | _ => none
    | none => none
  | .nilmap => match mapKV L.P t with | some _ => some (.int true .i64 (.ofNat 0)) | none => none
  | _ => none
def xCap (L : FCfg) (t : TypeId) (x : FV) : Option FV :=
  match x with
  | .sl _ _ _ _ _ n false => match L.P.underlying t with | some (.slice _) => some (.int false .i64 (.ofNat n)) | _ => none
  | _ => none
def xFold (f : Int → Int → Bool) (k : IntKind) (l : Bool) (x : Int) (r : List FV) : Option FV :=
  lrec (fun l x => some (.int l k x)) (fun y _ ih l x => match y with
    | .int l' _ y => ih (band l l') (match f y x with | true => y | false => x)
    | _ => none) r l x
def xMin (l : List FV) : Option FV := match l with | .int li k a :: r => xFold iblt k li a r | _ => none
def xMax (l : List FV) : Option FV := match l with | .int li k a :: r => xFold (fun y x => iblt x y) k li a r | _ => none
def argT (c : Call) : Option TypeId := match c.argTypes.toList with | t :: _ => some t | [] => none
def xCall (L : FCfg) (h : FH) (fr : FFr) (c : Call) : Option FV :=
  match c.callee with
  | .builtin .len => match fopvs L h fr c.args.toList with
    | some [x] => match argT c with | some t => xLen L h t x | none => none
    | _ => none
  | .builtin .cap => match fopvs L h fr c.args.toList with
    | some [x] => match argT c with | some t => xCap L t x | none => none
    | _ => none
  | .builtin .min => match fopvs L h fr c.args.toList with | some l => xMin l | none => none
  | .builtin .max => match fopvs L h fr c.args.toList with | some l => xMax l | none => none
  | _ => none
/-- What an operation yields that leaves the memory alone. -/
def fquiet (L : FCfg) (h : FH) (fr : FFr) (dec : List (Nat × Bool)) (op : Op) : Option FV :=
  match op with
  | .move x | .assign x => fopv L h fr x
  | .pick c a b => xPick L h fr dec c a b
  | .build t ps => xBuild L h fr t ps.toList
  | .field t x i => xField L h fr t x i
  | .fieldAddr t x i => xFieldAddr L h fr t x i
  | .indexAddr t x i => xIndexAddr L h fr t x i
  | .index t x i => xIndex L h fr t x i
  | .slice t x lo hi mx => xSlice L h fr t x lo hi mx
  | .load t x => match fopv L h fr x with | some v => fload L.P h t v | none => none
  | .nilCheck x => xNilCheck L h fr x
  | .binOp o t x y _ => match fopv L h fr x with
    | some a => match fopv L h fr y with
      | some b => fbin L.P h o t a b
      | none => none
    | none => none
  | .unOp o _ x => xUnOp L h fr o x
  | .convert s d x => xConvert L h fr s d x
  | .makeInterface t x => xMakeInterface L h fr t x
  | .makeFunc f l c => xMakeFunc L h fr f l.toList c.toList
  | .extract x i => xExtract L h fr x i
  | .lookup t x ix ok => xLookup L h fr t x ix ok
  | .call c => xCall L h fr c
  | _ => none

/-! ### Objects -/
def fflat (z : List FV) (n : Nat) : List FV := nrec [] (fun _ ih => lapp z ih) n
/-- What an operation makes: the new object, and the value. -/
def falloc (L : FCfg) (h : FH) (fr : FFr) (op : Op) : Option (FO × FV) :=
  match op with
  | .alloc t => match fzeroT L.P t with | some z => some (.cells (.l z) t, .ptr h.n 0) | none => none
  | .box t x => match fopv L h fr x with
    | some v => match fcells v with | some l => some (.cells (.l l) t, .ptr h.n 0) | none => none
    | none => none
  | .buildSlice t len ps => match sliceElem L.P t with
    | some e => match fzeroT L.P e with
      | some z => match Nat.ble (Nat.mul len (L.P.cellsOf e)) 10000 with
        | true => match Nat.beq (llen z) (L.P.cellsOf e) with
          | true => match fbuild L h fr (fun i => some (Nat.mul i (L.P.cellsOf e), L.P.cellsOf e)) (fflat z len) ps.toList with
            | some cs => some (.cells (.l cs) e, .sl h.n (L.P.cellsOf e) 0 (some 0) len len false)
            | none => none
          | false => none
        | false => none
      | none => none
    | none => none
  | .makeMap _ none => some (.mapc [] 0, .mapp h.n)
  | _ => none
def fstoreOp (L : FCfg) (h : FH) (fr : FFr) (t : TypeId) (x y : Operand) : Option FH :=
  match fopv L h fr x with
  | some a => match fopv L h fr y with
    | some v => match fcells v with
      | some l => match Nat.beq (llen l) (L.P.cellsOf t) with
        | true => match L.P.underlying t with
          | some _ => fstoreH h a l
          | none => none
        | false => none
      | none => none
    | none => none
  | none => none

/-! ### Operations that are told from outside -/
inductive FPR
  | det (h : FH) (v : FV)
  | new (h : FH) (v : FV)
  | no
def cellsA (h : FH) (k o n : Nat) : Option FC :=
  match hget h k with
  | some (_, some fo) => match fcOf fo with | some c => cSub c o n | none => none
  | _ => none
def putA (h : FH) (k o : Nat) (w : FC) : Option FH :=
  match hget h k with
  | some (b, some (.cells c ty)) => match cOver c o w with
    | some c' => some (hset h k (b, some (.cells c' ty)))
    | none => none
  | some (b, some (.row c d m op es zo fz fb ty)) => match Nat.ble fb o with
    | false => none
    | true => match cOver c o w with
      | some c' => some (hset h k (b, some (.row c' d m op es zo fz fb ty)))
      | none => match band (Nat.ble o (cLen c)) (Nat.ble (Nat.add o (cLen w)) (Nat.add (cLen c) m)) with
        | true => match d with
          | some d => some (hset h k (b, some (.row (cApp c o w) (some (Nat.add d (Nat.sub (Nat.add o (cLen w)) (cLen c)))) (Nat.sub m (Nat.sub (Nat.add o (cLen w)) (cLen c))) op es zo fz fb ty)))
          | none => none
        | false => none
  | _ => none
def ffirst (h : FH) (sz n : Nat) (x : FV) : Option FC :=
  match x with
  | .sl k sz' lo _ len _ _ => match n with
    | 0 => some (.l [])
    | n + 1 => match band (Nat.beq sz sz') (Nat.ble (Nat.succ n) len) with
      | true => cellsA h k (Nat.mul lo sz) (Nat.mul (Nat.succ n) sz)
      | false => none
  | .str s len => match Nat.ble n len with
    | true => some (.b (cutN s 0 n) n)
    | false => none
  | _ => none
def flenS (x : FV) : Option Nat := match x with | .sl _ _ _ _ n _ _ => some n | .str _ n => some n | _ => none
def fgrow (h : FH) (e sz need : Nat) (c : FC) : FPR :=
  match Nat.blt h.n 1000000 with
  | true => .new (hpush h (.row c (some 0) 0 true sz false [] 0 e)) (.sl h.n sz 0 (some 0) need need true)
  | false => .no
def fappend (L : FCfg) (h : FH) (t : TypeId) (xt : Option TypeId) (s x : FV) : FPR :=
  match sliceElem L.P t with
  | some e => match zerosT L.P xt with
    | true => .no
    | false => match s with
      | .sl k sz lo a len cn op => match flenS x with
        | none => .no
        | some n => match ffirst h (L.P.cellsOf e) n x with
          | none => .no
          | some new => match Nat.ble (Nat.add len n) cn with
            | true => match n with
              | 0 => .det h (.sl k sz lo a len cn op)
              | n + 1 => match Nat.beq sz (L.P.cellsOf e) with
                | false => .no
                | true => match putA h k (Nat.mul (Nat.add lo len) sz) new with
                  | some h' => .det h' (.sl k sz lo a (Nat.add len (Nat.succ n)) cn op)
                  | none => .no
            | false => match ffirst h (L.P.cellsOf e) len (.sl k sz lo a len cn op) with
              | none => .no
              | some old => match band (smallE L.P e (Nat.add len n)) (zeroLen L.P e) with
                | false => .no
                | true => match op with
                  | false => fgrow h e (L.P.cellsOf e) (Nat.add len n) (cApp old (cLen old) new)
                  | true => match band (Nat.beq lo 0) (Nat.beq sz (L.P.cellsOf e)) with
                    | false => .no
                    | true => match hget h k with
                      | some (b, some (.row c _ m true es _ _ fb ty)) => match band (band (Nat.ble fb (Nat.mul len sz)) (band (Nat.ble (Nat.mul cn sz) (Nat.add (cLen c) m)) (band (Nat.beq es sz) (Nat.beq (cLen new) (Nat.mul n sz))))) (band (Nat.blt h.n 1000000) (Nat.beq ty e)) with
                        | true => .new (hpush (hset h k (b, none)) (.row (cApp old (cLen old) new) (some 0) 0 true sz true [] fb e)) (.sl h.n sz 0 (some 0) (Nat.add len n) (Nat.add len n) true)
                        | false => .no
                      | _ => .no
      | _ => .no
  | none => .no
def fcopy (L : FCfg) (h : FH) (t : TypeId) (d s : FV) : FPR :=
  match sliceElem L.P t with
  | some e => match d with
    | .sl k sz lo _ dl _ _ => match flenS s with
      | none => .no
      | some sl => match minN sl dl with
        | 0 => .det h (.int true .i64 (.ofNat 0))
        | n + 1 => match Nat.beq sz (L.P.cellsOf e) with
          | false => .no
          | true => match ffirst h sz (Nat.succ n) s with
            | none => .no
            | some cs => match putA h k (Nat.mul lo sz) cs with
              | some h' => .det h' (.int true .i64 (.ofNat (Nat.succ n)))
              | none => .no
    | _ => .no
  | none => .no
def fsame1 (x y : FV) : Bool :=
  match x with
  | .int _ k a => match y with | .int _ k' b => band (kEq k k') (ieq a b) | _ => false
  | .str a la => match y with | .str b lb => eqN a la b lb | _ => false
  | .bool _ a => match y with | .bool _ b => beqB a b | _ => false
  | _ => false
def fsameL (xs ys : List FV) : Bool :=
  lrec (fun ys => match ys with | [] => true | _ :: _ => false) (fun x _ ih ys => match ys with | [] => false | y :: r => band (fsame1 x y) (ih r)) xs ys
def fsame (x y : FV) : Bool :=
  match x with
  | .agg xs => match y with | .agg ys => fsameL xs ys | _ => false
  | x => fsame1 x y
def fdelE (es : List (FV × FV × Nat)) (i : Nat) : List (FV × FV × Nat) :=
  lrec (fun _ => []) (fun x r ih i => match i with | 0 => r | i + 1 => x :: ih i) es i
def fbornAt (es : List (FV × FV × Nat)) (i : Nat) : Nat := match lget es i with | some (_, _, n) => n | none => 0
def fmapUpd (L : FCfg) (h : FH) (t : TypeId) (m key val : FV) : FPR :=
  match mapKV L.P t with
  | some (kt, _) => match m with
    | .mapp k => match hget h k with
      | some (b, some (.mapc es c)) => match fckT L.P kt key with
        | true => match ffind L.P kt key es with
          | some (some (i, k0, _)) => match fsame k0 key with
            | true => .det (hset h k (b, some (.mapc (lset es i (key, val, fbornAt es i)) c))) .undef
            | false => .no
          | some none => .det (hset h k (b, some (.mapc (lapp es [(key, val, c)]) (Nat.succ c)))) .undef
          | none => .no
        | false => .no
      | _ => .no
    | _ => .no
  | none => .no
def fdelete (L : FCfg) (h : FH) (t : TypeId) (m key : FV) : FPR :=
  match mapKV L.P t with
  | some (kt, _) => match fckT L.P kt key with
    | true => match m with
      | .nilmap => .det h (.tup [])
      | .mapp k => match hget h k with
        | some (b, some (.mapc es c)) => match ffind L.P kt key es with
          | some (some (i, _, _)) => .det (hset h k (b, some (.mapc (fdelE es i) c))) (.tup [])
          | some none => .det h (.tup [])
          | none => .no
        | _ => .no
      | _ => .no
    | false => .no
  | none => .no
def isZ8 (z : List FV) : Bool := match z with | [.int true .u8 (.ofNat 0)] => true | _ => false
def zeroC (z : List FV) (n : Nat) : FC := match isZ8 z with | true => .b 0 n | false => .l (fflat z n)
def fclear (L : FCfg) (h : FH) (t : TypeId) (m : FV) : FPR :=
  match m with
  | .nilmap => match L.P.underlying t with | some _ => .det h (.tup []) | none => .no
  | .mapp k => match L.P.underlying t with
    | some _ => match hget h k with
      | some (b, some (.mapc _ c)) => .det (hset h k (b, some (.mapc [] c))) (.tup [])
      | _ => .no
    | none => .no
  | .sl k sz lo _ n cn _ => match sliceElem L.P t with
    | some e => match n with
      | 0 => .det h (.tup [])
      | n + 1 => match fzeroT L.P e with
        | some z => match band (bnot (Nat.beq cn 0)) (band (Nat.beq sz (L.P.cellsOf e)) (Nat.beq (llen z) sz)) with
          | true => match putA h k (Nat.mul lo sz) (zeroC z (Nat.succ n)) with | some h' => .det h' (.tup []) | none => .no
          | false => .no
        | none => .no
    | none => .no
  | _ => .no
def fbytesOf (c : FC) : Option (Nat × Nat) :=
  match c with
  | .b n len => some (n, len)
  | .l l => lrec (some (0, 0)) (fun x _ ih => match x with
    | .int _ .u8 (.ofNat a) => match ih with
      | some (n, len) => some (Nat.add (Nat.mod a 256) (Nat.mul 256 n), Nat.succ len)
      | none => none
    | _ => none) l
def fmakeSlice (L : FCfg) (h : FH) (t : TypeId) (l c : FV) : FPR :=
  match sliceElem L.P t with
  | some e => match zeroLen L.P e with
    | false => .no
    | true => match l with
      | .int _ _ (.ofNat l') => match c with
        | .int _ _ (.ofNat c') => match band (Nat.ble l' c') (band (smallE L.P e c') (Nat.blt h.n 1000000)) with
          | true => match fzeroT L.P e with
            | some z => .new (hpush h (.cells (zeroC z c') e)) (.sl h.n (L.P.cellsOf e) 0 (some 0) l' c' false)
            | none => .no
          | false => .no
        | _ => .no
      | _ => .no
  | none => .no
/-- 1: bytes to a text; 3: a pointer stays. -/
def convK (P : Program) (s d : TypeId) : Nat :=
  match P.underlying s with
  | some (.slice e) => match P.underlying e with
    | some (.int .u8) => match P.underlying d with | some .string => 1 | _ => 0
    | _ => 0
  | some (.pointer _) => match P.underlying d with | some .unsafePointer => 3 | _ => 0
  | some .unsafePointer => match P.underlying d with | some (.pointer _) => 3 | _ => 0
  | _ => 0
def fptrConv (L : FCfg) (h : FH) (s d : TypeId) (x : FV) : FPR :=
  match ptrElem L.P s d with
  | some u => match x with
    | .ptr k o => match Nat.beq o 0 with
      | true => match hget h k with
        | some (_, some (.cells c ty)) => match band (Nat.beq ty u) (band (bnot (Nat.beq (L.P.cellsOf u) 0)) (Nat.beq (cLen c) (L.P.cellsOf u))) with
          | true => .det h (.ptr k 0)
          | false => .no
        | _ => .no
      | false => .no
    | _ => .no
  | none => .no
def fconv (L : FCfg) (h : FH) (s d : TypeId) (x : FV) : FPR :=
  match convK L.P s d with
  | 1 => match x with
    | .sl k sz lo a n cn op => match ffirst h 1 n (.sl k sz lo a n cn op) with
      | some c => match fbytesOf c with
        | some (m, len) => .det h (.str m len)
        | none => .no
      | none => .no
    | _ => .no
  | 3 => fptrConv L h s d x
  | _ => .no
def fsliceData (h : FH) (x : FV) : FPR :=
  match x with
  | .sl k sz lo off _ n op => match off with
    | none => .det h .nil
    | some _ => match Nat.beq n 0 with
      | true => .no
      | false => .det h (.elt k lo sz 0)
  | _ => .no
def fusRow (fo : FO) (m : Nat) : Option (FC × TypeId × FO) :=
  match fo with
  | .cells c ty => some (c, ty, .row c none 0 false 0 false [(0, m)] m ty)
  | .row c d mm op es zo fz fb ty => some (c, ty, .row c d mm op es zo (lapp fz [(0, m)]) (maxN fb m) ty)
  | _ => none
def fstring (L : FCfg) (h : FH) (t : TypeId) (x n : FV) : FPR :=
  match n with
  | .int _ .i64 (.ofNat m) => match m with
    | 0 => match x with
      | .nil => .det h (.str 0 0)
      | .elt _ _ _ _ => .det h (.str 0 0)
      | _ => .no
    | m + 1 => match x with
      | .elt k i sz j => match band (Nat.beq (Nat.add (Nat.mul i sz) j) 0) (Nat.blt m 9223372036854775807) with
        | true => match L.P.underlying t with
          | some (.pointer el) => match hget h k with
            | some (b, some fo) => match fusRow fo (Nat.succ m) with
              | some (c, ty, fo') => match band (Nat.beq ty el) (Nat.beq (L.P.cellsOf el) 1) with
                | true => match cSub c 0 (Nat.succ m) with
                  | some c' => match fbytesOf c' with
                    | some (s, len) => .det (hset h k (b, some fo')) (.str s len)
                    | none => .no
                  | none => .no
                | false => .no
              | none => .no
            | _ => .no
          | _ => .no
        | false => .no
      | _ => .no
  | _ => .no
def memN (n : Nat) (l : List Nat) : Bool := lrec false (fun m _ ih => match Nat.beq n m with | true => true | false => ih) l
def fleft (seen : List Nat) (es : List (FV × FV × Nat)) : List (FV × FV × Nat) :=
  lrec [] (fun e _ ih => match memN e.2.2 seen with | true => ih | false => e :: ih) es
def fborn (n : Nat) (es : List (FV × FV × Nat)) : Option (FV × FV) :=
  lrec none (fun e _ ih => match Nat.beq e.2.2 n with | true => some (e.1, e.2.1) | false => ih) es
def flast (l : List Nat) : Nat := lrec (fun d => d) (fun x _ ih _ => ih x) l 0
def frange (L : FCfg) (h : FH) (t : TypeId) (x : FV) : FPR :=
  match mapKV L.P t with
  | some _ => match Nat.blt h.n 1000000 with
    | true => match x with
      | .mapp k => match hget h k with
        | some (_, some (.mapc _ c)) => .new (hpush h (.iterc (some k) c [] c)) (.ptr h.n 0)
        | _ => .no
      | .nilmap => .new (hpush h (.iterc none 0 [] 0)) (.ptr h.n 0)
      | _ => .no
    | false => .no
  | none => .no
def fstepB (seen : List Nat) (es : List (FV × FV × Nat)) (last : Nat) : Bool :=
  match seen with
  | [] => true
  | _ :: _ => match es with
    | [] => true
    | _ :: _ => bnot (lall (fun e => Nat.ble last e.2.2) es)
def fnext (h : FH) (x : FV) : FPR :=
  match x with
  | .ptr k 0 => match hget h k with
    | some (b, some (.iterc mk since seen last)) => match mk with
      | none => .det h (.tup [.bool true false])
      | some m => match hget h m with
        | some (_, some (.mapc es c)) => match fstepB seen es last with
          | false => .no
          | true => match fleft seen es with
            | [] => .det h (.tup [.bool true false])
            | [(key, val, n)] => match Nat.blt n since with
              | true => .det (hset h k (b, some (.iterc (some m) since (lapp seen [n]) c))) (.tup [.bool true true, key, val])
              | false => .no
            | _ => .no
        | _ => .no
    | _ => .no
  | _ => .no
def flastN (l : List Nat) : Option Nat := lrec none (fun x r ih => match r with | [] => some x | _ :: _ => ih) l
def ffindE (n : Nat) (l : List (FV × FV × Nat)) : Option (FV × FV × Nat) := lrec none (fun e _ ih => match Nat.beq e.2.2 n with | true => some e | false => ih) l
def fentryR (h : FH) (x : FV) : FPR :=
  match x with
  | .ptr k 0 => match hget h k with
    | some (_, some (.iterc (some m) _ seen last)) => match flastN seen with
      | some n => match hget h m with
        | some (_, some (.mapc es c)) => match Nat.beq c last with
          | false => .no
          | true => match ffindE n es with
            | some e => .det h (.tup [e.1, e.2.1])
            | none => .no
        | _ => .no
      | none => .no
    | _ => .no
  | _ => .no
def fbuiltin (L : FCfg) (h : FH) (bi : Builtin) (ts : List TypeId) (l : List FV) : FPR :=
  match bi with
  | .append => match ts with
    | t :: r => match l with
      | [s, x] => fappend L h t (match r with | u :: _ => some u | [] => none) s x
      | _ => .no
    | [] => .no
  | .copy => match ts with
    | t :: _ => match l with
      | [d, s] => fcopy L h t d s
      | _ => .no
    | [] => .no
  | .clear => match ts with
    | t :: _ => match l with
      | [m] => fclear L h t m
      | _ => .no
    | [] => .no
  | .delete => match ts with
    | t :: _ => match l with
      | [m, k] => fdelete L h t m k
      | _ => .no
    | [] => .no
  | .unsafeSliceData => match l with | [x] => fsliceData h x | _ => .no
  | .unsafeString => match ts with
    | [t, _] => match l with | [x, n] => fstring L h t x n | _ => .no
    | _ => .no
  | _ => .no
/-! ### Functions that are told from outside -/
def insI (x : Int) (l : List Int) : List Int :=
  lrec [x] (fun y r ih => match iblt y x with | true => y :: ih | false => x :: y :: r) l
def sortI (l : List Int) : List Int := lrec [] (fun x _ ih => insI x ih) l
def intsOf (l : List (FV × FV × Nat)) : Option (List Int) :=
  lrec (some []) (fun e _ ih => match e.1 with
    | .int _ .i64 a => match ih with | some l => some (a :: l) | none => none
    | _ => none) l
def ndN (l : List Nat) : Bool := lrec true (fun x r ih => band (bnot (memN x r)) ih) l
def memI (x : Int) (l : List Int) : Bool := lrec false (fun y _ ih => bor (ieq x y) ih) l
def ndI (l : List Int) : Bool := lrec true (fun x r ih => band (bnot (memI x r)) ih) l
def keysOkF (l : List Int) (bs : List Nat) (c : Nat) : Bool :=
  band (ndI l) (band (ndN bs) (band (lall (fun b => Nat.blt b c) bs) (lall (fun a => band (bnot (iblt a (Int.negSucc 9223372036854775807))) (bnot (iblt (Int.ofNat 9223372036854775807) a))) l)))
def fsorted (L : FCfg) (h : FH) (args : List FV) : FPR :=
  match args with
  | [.fn (.func kf) [] [.ptr k o]] => match band (memN kf L.keysFn) (Nat.beq o 0) with
    | true => match hget h k with
      | some (_, some (.cells (.l [.mapp m]) _)) => match hget h m with
        | some (_, some (.mapc es c)) => match intsOf es with
          | some l => match keysOkF l (lmap (fun e => e.2.2) es) c with
           | false => .no
           | true => match l with
            | [] => .det h (.sl 0 0 0 none 0 0 false)
            | _ :: _ => match band (Nat.blt h.n 1000000) (Nat.ble (llen l) 1000000) with
              | true => .new (hpush h (.row (.l (lmap (FV.int true .i64) (sortI l))) (some 0) 0 true 1 false [] 0 L.i64t)) (.sl h.n 1 0 (some 0) (llen l) (llen l) true)
              | false => .no
          | none => .no
        | _ => .no
      | _ => .no
    | false => .no
  | _ => .no
def isScal (c : FV) : Bool := match c with | .int _ _ _ => true | .bool _ _ => true | .str _ _ => true | _ => false
def glB (l : List Int) (cs : List FV) : Bool :=
  lrec (β := List FV → Bool) (fun cs => match cs with | [] => true | _ :: _ => false) (fun x _ ih cs => match cs with
    | .int true .u32 y :: r => band (ieq x y) (ih r)
    | _ => false) l cs
/-- The first global is as it was. -/
def fglob0 (L : FCfg) (h : FH) : Bool :=
  match hget h 0 with
  | some (some 0, some (.cells (.l cs) ty)) => band (Nat.beq ty L.glob0t) (glB L.glob0 cs)
  | _ => false
def fconst (L : FCfg) (h : FH) (n : Nat) (args : List FV) : FPR :=
  match args with
  | [] => match lget L.consts n with
    | some (need, c) => match band (isScal c) (match need with | false => true | true => fglob0 L h) with
      | true => .det h c
      | false => .no
    | none => .no
  | _ => .no
def fextP (L : FCfg) (h : FH) (n : Nat) (args : List FV) : FPR :=
  match n with
  | 1 => match args with | [x] => .det h x | _ => .no
  | 2 => match args with
    | [.int _ .i64 (.ofNat a)] => match band (Nat.blt h.n 1000000) (Nat.ble a 1048576) with
      | true => .new (hpush h (.row (.l []) (some 0) a true 1 false [] 0 L.u8t)) (.sl h.n 1 0 (some 0) a a true)
      | false => .no
    | _ => .no
  | 4 => fsorted L h args
  | n => match Nat.ble 10 n with
    | true => fconst L h (Nat.sub n 10) args
    | false => .no
def extOf (g : Nat) (l : List (Nat × Nat)) : Nat := lrec 0 (fun p _ ih => match Nat.beq p.1 g with | true => p.2 | false => ih) l
/-- Which function is called, with what. -/
def fcallee (L : FCfg) (h : FH) (fr : FFr) (c : Call) : Option (Nat × List FV) :=
  match c.callee with
  | .value x => match fopv L h fr x with
    | some (.fn (.func g) l cap) => match fopvs L h fr c.args.toList with
      | some args => some (g, lapp l (lapp args cap))
      | none => none
    | _ => none
  | _ => none
def fprim (L : FCfg) (h : FH) (fr : FFr) (op : Op) : FPR :=
  match op with
  | .call c => match c.callee with
    | .builtin bi => match fopvs L h fr c.args.toList with
      | some l => fbuiltin L h bi c.argTypes.toList l
      | none => .no
    | _ => match fcallee L h fr c with
      | some (g, args) => fextP L h (extOf g L.ext) args
      | none => .no
  | .mapUpdate t m k v => match fopv L h fr m with
    | some m => match fopv L h fr k with
      | some k => match fopv L h fr v with
        | some v => fmapUpd L h t m k v
        | none => .no
      | none => .no
    | none => .no
  | .makeSlice t l c => match fopv L h fr l with
    | some l => match fopv L h fr c with
      | some c => fmakeSlice L h t l c
      | none => .no
    | none => .no
  | .convert s d x => match fopv L h fr x with
    | some x => fconv L h s d x
    | none => .no
  | .range t x => match fopv L h fr x with
    | some x => frange L h t x
    | none => .no
  | .next x false => match fopv L h fr x with
    | some x => fnext h x
    | none => .no
  | .entry x => match fopv L h fr x with
    | some x => fentryR h x
    | none => .no
  | _ => .no
end
end Go.Fx

/- The executor 'Fx': steps, runs. -/
namespace Go.Fx
open Go Go.Sx
noncomputable section

inductive FR
  | go (s : FSt)
  | new (s : FSt)
  | stop
def fputD (fr : FFr) (nt : Nat) (d : Option Nat) (v : FV) : FFr :=
  match d with
  | some t => match Nat.ble (Nat.succ t) nt with | true => tput fr t v | false => .e
  | none => fr
/-- Is an operation meant to be carried out? (0: no; 1: yes; else it isn't known.) -/
inductive GQ
  | yes
  | no
  | dec (t : Nat) (b : Bool)
  | stop
def fguard (ops : List Oper) (fr : FFr) (dec : List (Nat × Bool)) (o : Oper) : GQ :=
  match o.guard with
  | none => .yes
  | some _ => match guardT ops o with
    | none => .stop
    | some (t, want) => match decB dec t with
      | some x => match beqB x want with | true => .yes | false => .no
      | none => match tget fr t with
        | some (.bool l x) => match l with
          | true => match beqB x want with | true => .yes | false => .no
          | false => match x with | true => .dec t true | false => .dec t false
        | some .undef => .no
        | _ => .stop
/-! ### Behind a loud operation -/
def fnEq (f g : Fn) : Bool :=
  match f with
  | .func a => (match g with | .func b => Nat.beq a b | _ => false)
  | _ => false
def oEq (a b : Option Nat) : Bool :=
  match a with
  | none => (match b with | none => true | some _ => false)
  | some x => (match b with | none => false | some y => Nat.beq x y)
def vEq (f : Nat) : FV → FV → Bool :=
  nrec (β := FV → FV → Bool) (fun _ _ => false) (fun _ ih x y =>
    let all (xs ys : List FV) : Bool := lrec (β := List FV → Bool) (fun ys => match ys with | [] => true | _ :: _ => false) (fun x _ ihl ys => match ys with | [] => false | y :: r => band (ih x y) (ihl r)) xs ys
    match x with
    | .int l k a => match y with | .int l' k' b => band (beqB l l') (band (kEq k k') (ieq a b)) | _ => false
    | .bool l a => match y with | .bool l' b => band (beqB l l') (beqB a b) | _ => false
    | .str a la => match y with | .str b lb => band (Nat.beq a b) (Nat.beq la lb) | _ => false
    | .ptr k o => match y with | .ptr k' o' => band (Nat.beq k k') (Nat.beq o o') | _ => false
    | .elt k i sz j => match y with | .elt k' i' sz' j' => band (Nat.beq k k') (band (Nat.beq i i') (band (Nat.beq sz sz') (Nat.beq j j'))) | _ => false
    | .nil => match y with | .nil => true | _ => false
    | .sl k sz lo a len n op => match y with | .sl k' sz' lo' a' len' n' op' => band (Nat.beq k k') (band (Nat.beq sz sz') (band (Nat.beq lo lo') (band (oEq a a') (band (Nat.beq len len') (band (Nat.beq n n') (beqB op op')))))) | _ => false
    | .mapp k => match y with | .mapp k' => Nat.beq k k' | _ => false
    | .nilmap => match y with | .nilmap => true | _ => false
    | .agg xs => match y with | .agg ys => all xs ys | _ => false
    | .tup xs => match y with | .tup ys => all xs ys | _ => false
    | .fn f xs zs => match y with | .fn g ys us => band (fnEq f g) (band (all xs ys) (all zs us)) | _ => false
    | .ifc t a => match y with | .ifc u b => band (Nat.beq t u) (ih a b) | _ => false
    | .undef => match y with | .undef => true | _ => false
    | .any _ => false) f
/-- Which quiet operations may not have come yet when x came. -/
def reL (P : Program) (ops : List Oper) (x : Nat) (deps r : List Nat) : List Oper :=
  lrec (β := Nat → List Oper) (fun _ => []) (fun o _ ih j => match hasB deps j || hasB (x :: r) j with
    | true => ih (Nat.succ j)
    | false => match Nat.beq (clsOf P o) 0 with
      | false => ih (Nat.succ j)
      | true => o :: ih (Nat.succ j)) ops 0
def frecheck (L : FCfg) (h : FH) (nt : Nat) (fr : FFr) (ops : List Oper) (dec : List (Nat × Bool)) (l : List Oper) : Bool :=
  lrec true (fun o _ ih => match o.dst with
    | none => false
    | some t => match Nat.ble (Nat.succ t) nt with
      | false => false
      | true => match tget fr t with
        | none => false
        | some v' => match fguard ops fr dec o with
          | .no => match v' with | .undef => ih | _ => false
          | .yes => match fquiet L h fr dec o.op with
            | some v => match vEq 5 v v' with | true => ih | false => false
            | none => false
          | _ => false) l
/-- The caller's frame, behind a call that handed a value back. -/
def fresume (L : FCfg) (h : FH) (f : FF) (v : FV) : Option FF :=
  match f with
  | ⟨fn, nt, fr, todo⟩ => match todo with
    | .reg ops i (o :: rest) dec :: k => some ⟨fn, nt, fputD fr nt o.dst v, .reg ops (Nat.succ i) rest (decPut dec nt o.dst) :: k⟩
    | .dreg ops (x :: r) dec :: k => match nthO ops.toList x with
      | some o => match putB nt o.dst with
        | true => match frecheck L h nt (fputD fr nt o.dst v) ops.toList (decPut dec nt o.dst) (reL L.P ops.toList x (depsOf o) r) with
          | true => some ⟨fn, nt, fputD fr nt o.dst v, .dreg ops r (decPut dec nt o.dst) :: k⟩
          | false => none
        | false => none
      | none => none
    | _ => none
def fexit (id : Nat) (k : List SItem) : Option (List SItem) :=
  lrec none (fun x r ih => match x with
    | .blk i => match Nat.beq i id with | true => some r | false => ih
    | _ => ih) k
def fmkFr (l : List FV) : FFr := lrec (β := Nat → FFr → FFr) (fun _ fr => fr) (fun x _ ih i fr => ih (Nat.succ i) (tput fr i x)) l 0 .e
def fres (L : FCfg) (h : FH) (fr : FFr) (l : List ResultVar) : Option (List FV) :=
  lrec (some []) (fun r _ ih => match r with
    | .tmp t => match tget fr t with
      | some v => match ih with | some l => some (v :: l) | none => none
      | none => none
    | .cell a t => match tget fr a with
      | some x => match fload L.P h t x with
        | some v => match ih with | some l => some (v :: l) | none => none
        | none => none
      | none => none) l
def resL (P : Program) (fn : Nat) : Option (List ResultVar) := match P.funcs[fn]? with | some f => some f.results.toList | none => none
def fretV (L : FCfg) (h : FH) (fn : Nat) (fr : FFr) : Option FV :=
  match resL L.P fn with
  | some l => match fres L h fr l with
    | some [x] => some x
    | some l => some (.tup l)
    | none => none
  | none => none
def fret (L : FCfg) (h : FH) (fn : Nat) (fr : FFr) (stk : List FF) : FR :=
  match stk with
  | [] => .stop
  | f :: stk' => match fretV L h fn fr with
    | some v => match fresume L h f v with
      | some f' => .go ⟨h, f', stk'⟩
      | none => .stop
    | none => .stop
def fcall (L : FCfg) (h : FH) (top : FF) (stk : List FF) (g : Nat) (args : List FV) : FR :=
  match memB g L.stops with
  | true => .stop
  | false => match enterQ L.P g with
    | some (c, n) => match Nat.ble (llen args) n with
      | true => .go ⟨h, ⟨g, n, fmkFr args, [.code c]⟩, top :: stk⟩
      | false => .stop
    | none => .stop
def fprimR (L : FCfg) (h : FH) (fn nt : Nat) (fr : FFr) (ops : Array Oper) (i : Nat) (o : Oper) (rest : List Oper) (dec : List (Nat × Bool)) (k : List SItem) (stk : List FF) : FR :=
  match fprim L h fr o.op with
  | .det h' v => .go ⟨h', ⟨fn, nt, fputD fr nt o.dst v, .reg ops (Nat.succ i) rest (decPut dec nt o.dst) :: k⟩, stk⟩
  | .new h' v => .new ⟨h', ⟨fn, nt, fputD fr nt o.dst v, .reg ops (Nat.succ i) rest (decPut dec nt o.dst) :: k⟩, stk⟩
  | .no => .stop
def fallocR (L : FCfg) (h : FH) (fn nt : Nat) (fr : FFr) (d : Option Nat) (op : Op) (k : List SItem) (stk : List FF) : FR :=
  match falloc L h fr op with
  | some (fo, v) => match Nat.blt h.n 1000000 with
    | true => .new ⟨hpush h fo, ⟨fn, nt, fputD fr nt d v, k⟩, stk⟩
    | false => .stop
  | none => .stop
def fstepReg (L : FCfg) (h : FH) (fn nt : Nat) (fr : FFr) (ops : Array Oper) (i : Nat) (o : Oper) (rest : List Oper) (dec : List (Nat × Bool)) (k : List SItem) (stk : List FF) : FR :=
  match fguard ops.toList fr dec o with
  | .stop => .stop
  | .dec t b => .go ⟨h, ⟨fn, nt, fr, .reg ops i (o :: rest) ((t, b) :: dec) :: k⟩, stk⟩
  | .no => .go ⟨h, ⟨fn, nt, fputD fr nt o.dst .undef, .reg ops (Nat.succ i) rest (decPut dec nt o.dst) :: k⟩, stk⟩
  | .yes => match fquiet L h fr dec o.op with
    | some v => .go ⟨h, ⟨fn, nt, fputD fr nt o.dst v, .reg ops (Nat.succ i) rest (decPut dec nt o.dst) :: k⟩, stk⟩
    | none => match o.op with
      | .store t x y => match fstoreOp L h fr t x y with
        | some h' => .go ⟨h', ⟨fn, nt, fputD fr nt o.dst .undef, .reg ops (Nat.succ i) rest (decPut dec nt o.dst) :: k⟩, stk⟩
        | none => .stop
      | .alloc _ => fallocR L h fn nt fr o.dst o.op (.reg ops (Nat.succ i) rest (decPut dec nt o.dst) :: k) stk
      | .box _ _ => fallocR L h fn nt fr o.dst o.op (.reg ops (Nat.succ i) rest (decPut dec nt o.dst) :: k) stk
      | .buildSlice _ _ _ => fallocR L h fn nt fr o.dst o.op (.reg ops (Nat.succ i) rest (decPut dec nt o.dst) :: k) stk
      | .makeMap _ _ => fallocR L h fn nt fr o.dst o.op (.reg ops (Nat.succ i) rest (decPut dec nt o.dst) :: k) stk
      | .call c => match fcallee L h fr c with
        | some (g, args) => match extOf g L.ext with
          | 0 => fcall L h ⟨fn, nt, fr, .reg ops i (o :: rest) dec :: k⟩ stk g args
          | _ => fprimR L h fn nt fr ops i o rest dec k stk
        | none => fprimR L h fn nt fr ops i o rest dec k stk
      | _ => fprimR L h fn nt fr ops i o rest dec k stk
def fearly (L : FCfg) (h : FH) (fr : FFr) (nt : Nat) (l : List Oper) : Bool :=
  lall (fun o => match falloc L h fr o.op with
    | some _ => band o.dst.isSome (putB nt o.dst)
    | none => false) l
/-- The objects that may have been made ahead. -/
def earlyL (P : Program) (ops : List Oper) (all r : List Nat) : Option (List Oper) :=
  lrec (some []) (fun j _ ih => match nthO ops j with
    | some o => match ih with
      | some l => match Nat.beq (clsOf P o) 1 && readyB o all && o.guard.isNone with
        | true => some (o :: l)
        | false => some l
      | none => none
    | none => none) r
def fbackR (L : FCfg) (h : FH) (fn nt : Nat) (fr : FFr) (ops : Array Oper) (x : Nat) (r : List Nat) (dec : List (Nat × Bool)) (k : List SItem) (stk : List FF) (v : FV) : Option FSt :=
  match fresume L h ⟨fn, nt, fr, .dreg ops (x :: r) dec :: k⟩ v with
  | some f => some ⟨h, f, stk⟩
  | none => none
def fprimD (L : FCfg) (h : FH) (fn nt : Nat) (fr : FFr) (ops : Array Oper) (x : Nat) (o : Oper) (r : List Nat) (dec : List (Nat × Bool)) (k : List SItem) (stk : List FF) : FR :=
  match fprim L h fr o.op with
  | .det h' v => match fbackR L h' fn nt fr ops x r dec k stk v with | some s => .go s | none => .stop
  | .new h' v => match fbackR L h' fn nt fr ops x r dec k stk v with | some s => .new s | none => .stop
  | .no => .stop
def floudD (L : FCfg) (h : FH) (fn nt : Nat) (fr : FFr) (ops : Array Oper) (x : Nat) (o : Oper) (r : List Nat) (dec : List (Nat × Bool)) (k : List SItem) (stk : List FF) : FR :=
  match o.op with
  | .assign y => match fopv L h fr y with
    | some v => .go ⟨h, ⟨fn, nt, fputD fr nt o.dst v, .dreg ops r (decPut dec nt o.dst) :: k⟩, stk⟩
    | none => .stop
  | .store t a b => match fstoreOp L h fr t a b with
    | some h' => match fbackR L h' fn nt fr ops x r dec k stk .undef with | some s => .go s | none => .stop
    | none => .stop
  | .call c => match fcallee L h fr c with
    | some (g, args) => match extOf g L.ext with
      | 0 => fcall L h ⟨fn, nt, fr, .dreg ops (x :: r) dec :: k⟩ stk g args
      | _ => fprimD L h fn nt fr ops x o r dec k stk
    | none => fprimD L h fn nt fr ops x o r dec k stk
  | _ => fprimD L h fn nt fr ops x o r dec k stk
def fstepDreg (L : FCfg) (h : FH) (fn nt : Nat) (fr : FFr) (ops : Array Oper) (x : Nat) (r : List Nat) (dec : List (Nat × Bool)) (k : List SItem) (stk : List FF) : FR :=
  match nthO ops.toList x with
  | none => .stop
  | some o => match putB nt o.dst with
    | false => .stop
    | true => match fguard ops.toList fr dec o with
      | .stop => .stop
      | .dec t b => .go ⟨h, ⟨fn, nt, fr, .dreg ops (x :: r) ((t, b) :: dec) :: k⟩, stk⟩
      | g => match clsOf L.P o with
        | 0 => match o.dst.isSome with
          | false => .stop
          | true => match g with
            | .yes => match fquiet L h fr dec o.op with
              | some v => .go ⟨h, ⟨fn, nt, fputD fr nt o.dst v, .dreg ops r (decPut dec nt o.dst) :: k⟩, stk⟩
              | none => .stop
            | _ => .go ⟨h, ⟨fn, nt, fputD fr nt o.dst .undef, .dreg ops r (decPut dec nt o.dst) :: k⟩, stk⟩
        | c => match earlyL L.P ops.toList (x :: r) r with
          | none => .stop
          | some l => match fearly L h fr nt l with
            | false => .stop
            | true => match g with
              | .yes => match c with
                | 1 => fallocR L h fn nt fr o.dst o.op (.dreg ops r (decPut dec nt o.dst) :: k) stk
                | _ => floudD L h fn nt fr ops x o r dec k stk
              | _ => .go ⟨h, ⟨fn, nt, fputD fr nt o.dst .undef, .dreg ops r (decPut dec nt o.dst) :: k⟩, stk⟩
def fstepCode (L : FCfg) (h : FH) (fn nt : Nat) (fr : FFr) (c : Code) (k : List SItem) (stk : List FF) : FR :=
  match c with
  | .skip => .go ⟨h, ⟨fn, nt, fr, k⟩, stk⟩
  | .label _ => .go ⟨h, ⟨fn, nt, fr, k⟩, stk⟩
  | .seq a c => .go ⟨h, ⟨fn, nt, fr, .code a :: .code c :: k⟩, stk⟩
  | .cond x a c => match fopv L h fr x with
    | some (.bool _ y) => match y with
      | true => .go ⟨h, ⟨fn, nt, fr, .code a :: k⟩, stk⟩
      | false => .go ⟨h, ⟨fn, nt, fr, .code c :: k⟩, stk⟩
    | _ => .stop
  | .block id c => .go ⟨h, ⟨fn, nt, fr, .code c :: .blk id :: k⟩, stk⟩
  | .loop c => .go ⟨h, ⟨fn, nt, fr, .loop c :: k⟩, stk⟩
  | .scope c => .go ⟨h, ⟨fn, nt, fr, .code c :: .scope c :: k⟩, stk⟩
  | .exit id => match fexit id k with
    | some k' => .go ⟨h, ⟨fn, nt, fr, k'⟩, stk⟩
    | none => .stop
  | .ret => fret L h fn fr stk
  | .region _ ops draw => match draw with
    | false => .go ⟨h, ⟨fn, nt, fr, .reg ops 0 ops.toList [] :: k⟩, stk⟩
    | true => match canon L.P ops.toList with
      | some r => .go ⟨h, ⟨fn, nt, fr, .dreg ops r [] :: k⟩, stk⟩
      | none => .stop
  | _ => .stop
def fstep (L : FCfg) (s : FSt) : FR :=
  match s with
  | ⟨h, ⟨fn, nt, fr, todo⟩, stk⟩ => match todo with
    | [] => fret L h fn fr stk
    | i :: k => match i with
      | .code c => fstepCode L h fn nt fr c k stk
      | .blk _ => .go ⟨h, ⟨fn, nt, fr, k⟩, stk⟩
      | .scope _ => .go ⟨h, ⟨fn, nt, fr, k⟩, stk⟩
      | .loop c => .go ⟨h, ⟨fn, nt, fr, .code c :: .loop c :: k⟩, stk⟩
      | .reg ops i l dec => match l with
        | [] => .go ⟨h, ⟨fn, nt, fr, k⟩, stk⟩
        | o :: rest => fstepReg L h fn nt fr ops i o rest dec k stk
      | .dreg ops l dec => match l with
        | [] => .go ⟨h, ⟨fn, nt, fr, k⟩, stk⟩
        | x :: r => fstepDreg L h fn nt fr ops x r dec k stk
/-- A run, as far as it comes. -/
def frun (L : FCfg) (n : Nat) (s : FSt) : FSt :=
  nrec (β := FSt → FSt) (fun s => s) (fun _ ih s => match fstep L s with
    | .go s' => ih s'
    | .new s' => ih s'
    | .stop => s) n s
end
end Go.Fx
