import Derived.Test.YtaalpiacinifkaaGreatDoorF2
/- Part of the proof that ForwardNone of law 21 returns true whatever it is called with. No condition. -/
set_option linter.all false
/- The executor 'Fx': operations that leave the memory alone. -/
namespace Go.Fx
open Go Go.Sx

section
variable {β : Nat → Orc} {L : FCfg} {h : FH} {fr : FFr} {dec : List (Nat × Bool)}
/-- What an operation yields is what the slower executor says. -/
def QOk (q : Option (SV × Prop)) (v : SV) : Prop := ∃ vc : Prop, q = some (v, vc) ∧ vc
theorem isInt_abs (l : Bool) (k : IntKind) (a : Int) : isInt (absV β (.int l k a)) = some (l, k, a) := by cases l <;> rfl
theorem xPick_sound {c a b : Operand} {v : FV} (hv : xPick L h fr dec c a b = some v) : QOk (qPick L.P L.globs (absH β h) (absF β fr) dec 0 c a b) (absV β v) := by
  have open' : ∀ c : Operand, (match fopv L h fr c with
    | some (.bool true true) => fopv L h fr a
    | some (.bool true false) => fopv L h fr b
    | _ => none) = some v → QOk (match opv L.globs (absH β h) (absF β fr) c with
      | some (.blit t) => match opv L.globs (absH β h) (absF β fr) (match t with | true => a | false => b) with | some v => some (v, True) | none => none
      | _ => none) (absV β v) := by
    intro c hv
    split at hv
    · rename_i hc
      have := fopv_sound (β := β) hc
      simp only [absV, mkBool] at this
      exact ⟨True, by simp only [this, fopv_sound (β := β) hv], trivial⟩
    · rename_i hc
      have := fopv_sound (β := β) hc
      simp only [absV, mkBool] at this
      exact ⟨True, by simp only [this, fopv_sound (β := β) hv], trivial⟩
    · simp at hv
  unfold xPick at hv
  unfold qPick
  cases c with
  | tmp t =>
    simp only at hv ⊢
    cases hd : decB dec t with
    | none => rw [hd] at hv; exact open' _ hv
    | some y =>
      rw [hd] at hv
      cases y
      · exact ⟨True, by simp only [fopv_sound (β := β) hv], trivial⟩
      · exact ⟨True, by simp only [fopv_sound (β := β) hv], trivial⟩
  | const x => exact open' (.const x) hv
  | global g => exact open' (.global g) hv
  | func g => exact open' (.func g) hv
theorem xBuild_sound {t : TypeId} {ps : Array (Nat × Operand)} {v : FV} (hv : xBuild L h fr t ps.toList = some v) : QOk (qBuild L.P L.globs (absH β h) (absF β fr) dec 0 t ps) (absV β v) := by
  unfold xBuild at hv
  unfold qBuild
  split at hv
  · rename_i z hz
    simp only [fzeroT_sound (β := β) hz]
    split at hv
    · rename_i fs hu
      split at hv
      · rename_i ha
        rw [lall_eq] at ha
        split at hv
        · rename_i cs hcs
          simp only [Option.some.injEq] at hv; subst hv
          exact ⟨True, by simp only [hu, ha, fbuild_sound (β := β) hcs, absV], trivial⟩
        · simp at hv
      · simp at hv
    · rename_i n e hu
      split at hv
      · rename_i d hd
        split at hv
        · rename_i cs hcs
          simp only [Option.some.injEq] at hv; subst hv
          exact ⟨True, by simp only [hu, hd, fbuild_sound (β := β) hcs, absV]; rw [show (fun i => some (i * L.P.cellsOf e, L.P.cellsOf e)) = (fun i => some (Nat.mul i (L.P.cellsOf e), L.P.cellsOf e)) from rfl, fbuild_sound (β := β) hcs], trivial⟩
        · simp at hv
      · simp at hv
    · simp at hv
  · simp at hv
theorem xField_sound {t : TypeId} {x : Operand} {i : Nat} {v : FV} (hv : xField L h fr t x i = some v) : QOk (qField L.P L.globs (absH β h) (absF β fr) dec 0 t x i) (absV β v) := by
  unfold xField at hv
  unfold qField
  split at hv
  · rename_i cs hx
    have := fopv_sound (β := β) hx
    simp only [absV] at this
    split at hv
    · rename_i off q ft hf
      exact ⟨True, by simp only [this, hf, fpart_sound (β := β) hv], trivial⟩
    · simp at hv
  · simp at hv
theorem xFieldAddr_sound {t : TypeId} {x : Operand} {i : Nat} {v : FV} (hv : xFieldAddr L h fr t x i = some v) : QOk (qFieldAddr L.P L.globs (absH β h) (absF β fr) dec 0 t x i) (absV β v) := by
  unfold xFieldAddr at hv
  unfold qFieldAddr
  split at hv
  · rename_i off size ft hf
    simp only [hf]
    split at hv
    · simp at hv
    · rename_i hz
      simp only [hz]
      split at hv
      · rename_i k o hx
        have := fopv_sound (β := β) hx
        simp only [absV] at this
        simp only [Option.some.injEq] at hv; subst hv
        exact ⟨True, by simp only [this, absV, nadd], trivial⟩
      · rename_i k e sz j hx
        have := fopv_sound (β := β) hx
        simp only [absV] at this
        simp only [Option.some.injEq] at hv; subst hv
        exact ⟨True, by simp only [this, absV, nadd], trivial⟩
      · simp at hv
  · simp at hv
theorem xIndexAddr_sound {t : TypeId} {x i : Operand} {v : FV} (hv : xIndexAddr L h fr t x i = some v) : QOk (qIndexAddr L.P L.globs (absH β h) (absF β fr) dec 0 t x i) (absV β v) := by
  unfold xIndexAddr at hv
  unfold qIndexAddr
  split at hv
  · rename_i l k a hi
    simp only [fopv_sound (β := β) hi, isInt_abs]
    split at hv
    · rename_i len e hu
      simp only [hu]
      split at hv
      · simp at hv
      · rename_i d hd
        simp only [hd]
        split at hv
        · rename_i k0 hx
          have := fopv_sound (β := β) hx
          simp only [absV] at this
          simp only [this]
          split at hv
          · rename_i hlt
            have hlt := nblt hlt
            simp only [Option.some.injEq] at hv; subst hv
            exact ⟨_, rfl, Int.natCast_nonneg _, by simp; omega⟩
          · simp at hv
        · simp at hv
    · rename_i e hu
      simp only [hu]
      split at hv
      · simp at hv
      · rename_i d hd
        simp only [hd]
        split at hv
        · rename_i k0 sz lo off len n op hx
          have := fopv_sound (β := β) hx
          simp only [absV] at this
          simp only [this]
          split at hv
          · rename_i hs
            simp only [hs]
            split at hv
            · rename_i hlt
              have hlt := nblt hlt
              simp only [Option.some.injEq] at hv; subst hv
              exact ⟨_, rfl, Int.natCast_nonneg _, by simp; omega⟩
            · simp at hv
          · simp at hv
        · simp at hv
    · simp at hv
  · simp at hv
theorem isStrT_iff {P : Program} {t : TypeId} (hs : isStrT P t = true) : P.underlying t = some .string := by
  unfold isStrT at hs
  split at hs
  · assumption
  · simp at hs
theorem xIndex_sound {t : TypeId} {x i : Operand} {v : FV} (hv : xIndex L h fr t x i = some v) : QOk (qIndex L.P L.globs (absH β h) (absF β fr) dec 0 t x i) (absV β v) := by
  unfold xIndex at hv
  unfold qIndex
  split at hv
  · rename_i l k a hi
    simp only [fopv_sound (β := β) hi, isInt_abs]
    split at hv
    · rename_i hs
      simp only [isStrT_iff hs]
      split at hv
      · rename_i n len hx
        have := fopv_sound (β := β) hx
        simp only [absV] at this
        simp only [this]
        split at hv
        · rename_i hlt
          have hlt := nblt hlt
          simp only [Option.some.injEq] at hv; subst hv
          refine ⟨0 ≤ Int.ofNat a ∧ Int.ofNat a < (bytesN n len).length, ?_, Int.natCast_nonneg _, by simp only [bytesN_len, Int.ofNat_eq_natCast]; omega⟩
          simp only [absV, mkInt, Int.ofNat_eq_natCast, Int.toNat_natCast]
          have e : (bytesN n len).getD a 0 = UInt8.ofNat (byteN n a) := by
            rw [List.getD_eq_getElem?_getD, List.getElem?_eq_getElem (by rw [bytesN_len]; exact hlt), bytesN_get]; rfl
          rw [e]
          simp [Nat.mod_eq_of_lt (byteN_lt n a)]
        · simp at hv
      · simp at hv
    · simp at hv
  · simp at hv
theorem optN_sound {d : Nat} {x : Option Operand} {a : Nat} (ha : optN L h fr d x = some a) : optI L.globs (absH β h) (absF β fr) (d : Int) x = some (a : Int) := by
  cases x with
  | none => simp only [optN, Option.some.injEq] at ha; subst ha; rfl
  | some x =>
    simp only [optN] at ha
    split at ha
    · rename_i l k n hx
      simp only [Option.some.injEq] at ha; subst ha
      simp only [optI, fopv_sound (β := β) hx, isInt_abs]; rfl
    · simp at ha
theorem optN_some {d : Nat} {x : Operand} {a : Nat} (ha : optN L h fr d (some x) = some a) (d' : Int) : optI L.globs (absH β h) (absF β fr) d' (some x) = some (a : Int) := optN_sound (d := d) ha
theorem optI_none (gl : List (Nat × Nat)) (H : Hp) (f : Fr) (d : Int) : optI gl H f d none = some d := rfl
theorem sliceElem_iff {P : Program} {t e : TypeId} (hs : sliceElem P t = some e) : P.underlying t = some (.slice e) ∧ (P.underlying e).isSome = true := by
  unfold sliceElem at hs
  split at hs
  · rename_i e' he
    split at hs
    · rename_i d hd
      simp only [Option.some.injEq] at hs; subst hs
      exact ⟨he, by rw [hd]; rfl⟩
    · simp at hs
  · simp at hs
theorem add_off (b o n : Nat) : (⟨b, o, none⟩ : Addr).add n = ⟨b, o + n, none⟩ := by
  unfold Addr.add
  split
  · rename_i h; subst h; rfl
  · rfl
theorem xSlice_sound {t : TypeId} {x : Operand} {lo hi mx : Option Operand} {v : FV} (hv : xSlice L h fr t x lo hi mx = some v) : QOk (qSlice L.P L.globs (absH β h) (absF β fr) dec 0 t x lo hi mx) (absV β v) := by
  unfold xSlice at hv
  unfold qSlice
  split at hv
  · rename_i n len hx
    have hx := fopv_sound (β := β) hx
    simp only [absV] at hx
    split at hv
    · rename_i hs
      simp only [isStrT_iff hs]
      split at hv
      · simp only [hx]
        split at hv
        · rename_i a ha
          split at hv
          · rename_i c hc
            have ha := optN_sound (β := β) ha
            have hc := optN_sound (β := β) hc
            simp only [Int.natCast_zero] at ha
            simp only [ha, bytesN_len, hc]
            split at hv
            · rename_i hle
              obtain ⟨h1, h2⟩ := band_true hle
              have h1 := nble h1
              have h2 := nble h2
              simp only [Option.some.injEq] at hv; subst hv
              refine ⟨0 ≤ (a : Int) ∧ (a : Int) ≤ c ∧ (c : Int) ≤ len, ?_, by omega⟩
              simp only [absV, Int.toNat_natCast, nsub]
              rw [bytesN_cut n a (c - a) len (by omega)]
            · simp at hv
          · simp at hv
        · simp at hv
      · simp at hv
    · simp at hv
  · rename_i k sz f ad len n op hx
    have hx := fopv_sound (β := β) hx
    simp only [absV] at hx
    split at hv
    · rename_i e he
      obtain ⟨hu, hue⟩ := sliceElem_iff he
      simp only [hu, hx, hue, Bool.and_true]
      split at hv
      · rename_i hsz
        have hcz : (Nat.beq sz (L.P.cellsOf e) || capZ ⟨n, opE β k op⟩) = true := by
          rw [bor_eq, band_eq, bnot_eq] at hsz
          rw [Bool.or_eq_true] at hsz ⊢
          rcases hsz with h1 | h1
          · exact .inl h1
          · right
            cases op <;> simp_all [capZ, opE]
        simp only [hcz]
        split at hv
        · rename_i m hm
          split at hv
          · rename_i hh hhh
            split at hv
            · rename_i a ha
              have ha := optN_sound (β := β) ha
              have hhh := optN_sound (β := β) hhh
              simp only [Int.natCast_zero] at ha
              split at hv
              · simp at hv
              rename_i hb
              obtain ⟨b1, hb⟩ := band_true hb
              obtain ⟨b2, hb⟩ := band_true hb
              obtain ⟨b3, b4⟩ := band_true hb
              have b2 := nble b2
              have b3 := nble b3
              have b4 := nble b4
              rw [bnot_eq, band_eq] at b1
              have b1 : (mx.isSome && hi.isNone) = false := by cases h1 : mx.isSome <;> cases h2 : hi.isNone <;> simp_all
              cases mx with
              | none =>
                simp only [optN, Option.some.injEq] at hm
                subst hm
                cases op with
                | false =>
                  simp only [Cap.v, opE, optI_none, hhh, ha, b1, Option.isNone_none, capSub] at hv ⊢
                  simp only [Option.some.injEq] at hv; subst hv
                  refine ⟨0 ≤ (a : Int) ∧ (a : Int) ≤ hh ∧ (hh : Int) ≤ n ∧ (n : Int) ≤ n, ?_, by omega⟩
                  simp only [absV, opE, offA, Int.toNat_natCast, nsub, nadd, nmul]
                  congr 2
                  cases ad with
                  | none => rfl
                  | some p =>
                    simp only [Option.map_some, nbeq_eq]
                    by_cases hna : n = a
                    · simp [hna]
                    · simp [hna, add_off]
                | true =>
                  simp only [Cap.v, opE, optI_none, hhh, ha, b1, Option.isNone_none, capSub] at hv ⊢
                  split at hv
                  · rename_i hba
                    rw [bor_eq, Bool.or_eq_true] at hba
                    have hle : Nat.ble a n = true := Nat.ble_eq_true_of_le (by omega)
                    simp only [Int.toNat_natCast, hle]
                    simp only [Option.some.injEq] at hv; subst hv
                    refine ⟨0 ≤ (a : Int) ∧ (a : Int) ≤ hh ∧ (hh : Int) ≤ ((β k).x + n : Nat) ∧ (((β k).x + n : Nat) : Int) ≤ ((β k).x + n : Nat), ?_, by omega⟩
                    simp only [absV, opE, offA, nsub, nadd, nmul]
                    congr 2
                    cases ad with
                    | none => rfl
                    | some p =>
                      simp only [Option.map_some]
                      rcases hba with hba | hba
                      · have := nbeq hba; subst this
                        split <;> simp [add_off]
                      · have := nblt hba
                        rw [if_neg (by omega), add_off]
                  · simp at hv
              | some mo =>
                simp only [] at hv
                simp only [optN_some (β := β) hm, hhh, ha, b1, Option.isNone_some, capSub, Int.toNat_natCast]
                simp only [Option.some.injEq] at hv; subst hv
                refine ⟨0 ≤ (a : Int) ∧ (a : Int) ≤ hh ∧ (hh : Int) ≤ m ∧ (m : Int) ≤ Cap.v ⟨n, opE β k op⟩, ?_, by have := capV_ge ⟨n, opE β k op⟩; simp only at this; omega⟩
                · simp only [absV, opE, offA, nsub, nadd, nmul]
                  congr 2
                  cases ad with
                  | none => rfl
                  | some p =>
                    simp only [Option.map_some, nbeq_eq]
                    by_cases hna : m = a
                    · simp [hna]
                    · simp [hna, add_off]
            · simp at hv
          · simp at hv
        · simp at hv
      · simp at hv
    · simp at hv
  · simp at hv
end
end Go.Fx

/- The executor 'Fx': operations that leave the memory alone (the rest of them); objects, stores, calls. -/
namespace Go.Fx
open Go Go.Sx

section
variable {β : Nat → Orc} {L : FCfg} {h : FH} {fr : FFr} {dec : List (Nat × Bool)}
theorem xNilCheck_sound {x : Operand} {v : FV} (hv : xNilCheck L h fr x = some v) : QOk (qNilCheck L.P L.globs (absH β h) (absF β fr) dec 0 x) (absV β v) := by
  unfold xNilCheck at hv
  unfold qNilCheck
  split at hv
  all_goals first
    | (rename_i hx
       have hx := fopv_sound (β := β) hx
       simp only [absV] at hx
       simp only [Option.some.injEq] at hv; subst hv
       exact ⟨True, by simp only [hx, absV], trivial⟩)
    | simp at hv
theorem notxor (w m : Nat) : (BitVec.ofInt w ((2 ^ w : Nat) - 1 : Int) ^^^ BitVec.ofInt w (Int.ofNat m)).toNat = 2 ^ w - 1 - m % 2 ^ w := by
  have h1 : (BitVec.ofInt w ((2 ^ w : Nat) - 1 : Int)) = BitVec.allOnes w := by
    apply BitVec.eq_of_toNat_eq
    have hp := Nat.two_pow_pos w
    have e : (((2 ^ w : Nat) : Int) - 1) = Int.ofNat (2 ^ w - 1) := by rw [Int.ofNat_eq_natCast]; omega
    rw [e, ofInt_nat, BitVec.toNat_allOnes, Nat.mod_eq_of_lt (by omega)]
  rw [h1, BitVec.allOnes_xor, BitVec.toNat_not, ofInt_nat]
theorem notk (k : IntKind) (hs : k.signed = false) (m : Nat) : (BitVec.ofInt k.bits (if k.signed then -1 else k.max) ^^^ BitVec.ofInt k.bits (Int.ofNat m)).toNat = 2 ^ k.bits - 1 - m % 2 ^ k.bits := by
  have e : (if k.signed then (-1 : Int) else k.max) = ((2 ^ k.bits : Nat) : Int) - 1 := by simp [hs, IntKind.max]
  rw [e]; exact notxor _ _
theorem xUnOp_sound {o : UnOp} {x : Operand} {v : FV} (hv : xUnOp L h fr o x = some v) : QOk (qUnOp L.P L.globs (absH β h) (absF β fr) dec 0 o x) (absV β v) := by
  unfold xUnOp at hv
  unfold qUnOp
  split at hv
  · rename_i a hx
    have hx := fopv_sound (β := β) hx
    simp only [hx]
    split at hv
    · split at hv
      · rename_i l b _
        simp only [Option.some.injEq] at hv; subst hv
        exact ⟨True, by cases l <;> simp only [absV, mkBool, notB, bnot_eq], trivial⟩
      · simp at hv
    · split at hv
      · rename_i l k a _
        simp only [Option.some.injEq] at hv; subst hv
        exact ⟨True, by simp only [isInt_abs]; simp only [absV, fwrap_eq]; rfl, trivial⟩
      · simp at hv
    · split at hv
      · rename_i l k m _
        simp only [isInt_abs]
        split at hv
        · simp only [Option.some.injEq] at hv; subst hv
          refine ⟨True, ?_, trivial⟩
          rw [notk .u8 rfl m, ← fwrap_eq]
          simp only [absV]
          have hb : m % 2 ^ IntKind.u8.bits < 2 ^ IntKind.u8.bits := Nat.mod_lt _ (Nat.two_pow_pos _)
          congr 3
          simp only [IntKind.bits] at hb ⊢
          simp only [fwrap, uwrap, nmod, nsub]
          congr 1
          omega
        · simp only [Option.some.injEq] at hv; subst hv
          refine ⟨True, ?_, trivial⟩
          rw [notk .u32 rfl m, ← fwrap_eq]
          simp only [absV]
          have hb : m % 2 ^ IntKind.u32.bits < 2 ^ IntKind.u32.bits := Nat.mod_lt _ (Nat.two_pow_pos _)
          congr 3
          simp only [IntKind.bits] at hb ⊢
          simp only [fwrap, uwrap, nmod, nsub]
          congr 1
          omega
        · simp only [Option.some.injEq] at hv; subst hv
          refine ⟨True, ?_, trivial⟩
          rw [notk .u64 rfl m, ← fwrap_eq]
          simp only [absV]
          have hb : m % 2 ^ IntKind.u64.bits < 2 ^ IntKind.u64.bits := Nat.mod_lt _ (Nat.two_pow_pos _)
          congr 3
          simp only [IntKind.bits] at hb ⊢
          simp only [fwrap, uwrap, nmod, nsub]
          congr 1
          omega
        · simp at hv
      · simp at hv
    · simp at hv
  · simp at hv
theorem intT_iff {P : Program} {t : TypeId} {k : IntKind} (hs : intT P t = some k) : P.underlying t = some (.int k) := by
  unfold intT at hs
  split at hs
  · simp only [Option.some.injEq] at hs; subst hs; assumption
  · simp at hs
theorem xConvert_sound {s d : TypeId} {x : Operand} {v : FV} (hv : xConvert L h fr s d x = some v) : QOk (qConvert L.P L.globs (absH β h) (absF β fr) dec 0 s d x) (absV β v) := by
  unfold xConvert at hv
  unfold qConvert
  split at hv
  · rename_i l k a hx
    simp only [fopv_sound (β := β) hx]
    split at hv
    · simp at hv
    · rename_i u hu
      split at hv
      · rename_i k' hk
        simp only [Option.some.injEq] at hv; subst hv
        exact ⟨True, by simp only [hu, intT_iff hk, isInt_abs]; simp only [absV, fwrap_eq], trivial⟩
      · simp at hv
  · rename_i n len hx
    simp only [fopv_sound (β := β) hx]
    split at hv
    · simp at hv
    · rename_i u hu
      split at hv
      · rename_i hs
        simp only [Option.some.injEq] at hv; subst hv
        exact ⟨True, by simp only [hu, isStrT_iff hs, absV], trivial⟩
      · simp at hv
  · simp at hv
theorem xMakeInterface_sound {t : TypeId} {x : Operand} {v : FV} (hv : xMakeInterface L h fr t x = some v) : QOk (qMakeInterface L.P L.globs (absH β h) (absF β fr) dec 0 t x) (absV β v) := by
  unfold xMakeInterface plainIface at hv
  unfold qMakeInterface
  cases hu : L.P.underlying t with
  | none => rw [hu] at hv; simp at hv
  | some d =>
    rw [hu] at hv
    have key : (match fopv L h fr x with | some v => some (FV.ifc t v) | none => none) = some v → QOk (match opv L.globs (absH β h) (absF β fr) x with | some v => some (SV.ifc t v, True) | none => none) (absV β v) := by
      intro hv
      split at hv
      · rename_i a hx
        simp only [Option.some.injEq] at hv; subst hv
        exact ⟨True, by simp only [fopv_sound (β := β) hx, absV], trivial⟩
      · simp at hv
    cases d <;> first | (simp at hv; done) | exact key hv
theorem xMakeFunc_sound {f : Fn} {l c : Array Operand} {v : FV} (hv : xMakeFunc L h fr f l.toList c.toList = some v) : QOk (qMakeFunc L.P L.globs (absH β h) (absF β fr) dec 0 f l c) (absV β v) := by
  unfold xMakeFunc at hv
  unfold qMakeFunc
  split at hv
  · rename_i l1 h1
    split at hv
    · rename_i l2 h2
      simp only [Option.some.injEq] at hv; subst hv
      exact ⟨True, by simp only [fopvs_sound (β := β) h1, fopvs_sound (β := β) h2, absV], trivial⟩
    · simp at hv
  · simp at hv
theorem xExtract_sound {x : Operand} {i : Nat} {v : FV} (hv : xExtract L h fr x i = some v) : QOk (qExtract L.P L.globs (absH β h) (absF β fr) dec 0 x i) (absV β v) := by
  unfold xExtract at hv
  unfold qExtract
  split at hv
  · rename_i l hx
    have hx := fopv_sound (β := β) hx
    simp only [absV] at hx
    rw [lget_getElem] at hv
    exact ⟨True, by simp only [hx, nthO_eq, absL_eq, List.getElem?_map, hv, Option.map_some], trivial⟩
  · simp at hv
theorem ffound_sound {P : Program} {e : TypeId} {ok : Bool} {r : Option FV} {v : FV} (hv : ffound P e ok r = some v) : foundV P e ok (r.map (absV β)) = some (absV β v) := by
  unfold ffound at hv
  unfold foundV
  cases r with
  | some a =>
    simp only [Option.some.injEq] at hv; subst hv
    cases ok <;> simp [absV, absL, mkBool]
  | none =>
    simp only at hv
    split at hv
    · rename_i z hz
      simp only [Option.some.injEq] at hv; subst hv
      simp only [Option.map_none, fzero_sound (β := β) hz]
      cases ok <;> simp [absV, absL, mkBool]
    · simp at hv
def absM (β : Nat → Orc) (es : List (FV × FV × Nat)) : List (SV × SV × Nat) := es.map fun e => (absV β e.1, absV β e.2.1, e.2.2)
theorem ffind_go {P : Program} {kt : TypeId} {key : FV} : ∀ {es : List (FV × FV × Nat)} {i : Nat} {r : Option (Nat × FV × FV)},
    List.rec (motive := fun _ => Nat → Option (Option (Nat × FV × FV))) (fun _ => some none) (fun e _ ih i => match feqS P 30 kt key e.1 with
    | some true => some (some (i, e.1, e.2.1))
    | some false => ih (Nat.succ i)
    | none => none) es i = some r →
    findC P kt (absV β key) (absM β es) i = some (r.map fun p => (p.1, absV β p.2.2)) ∧ ∀ p, r = some p → ∃ n, es[p.1 - i]? = some (p.2.1, p.2.2, n) ∧ i ≤ p.1
  | [], i, r, hr => by simp at hr; subst hr; exact ⟨rfl, by simp⟩
  | (k, v, n) :: es, i, r, hr => by
    simp only at hr
    simp only [absM, List.map_cons, findC]
    split at hr
    · rename_i he
      simp only [Option.some.injEq] at hr; subst hr
      refine ⟨by simp only [feqS_sound (β := β) he, Option.map_some], fun p hp => ?_⟩
      simp only [Option.some.injEq] at hp; subst hp
      exact ⟨n, by simp, Nat.le_refl _⟩
    · rename_i he
      obtain ⟨h1, h2⟩ := ffind_go hr
      refine ⟨by simp only [feqS_sound (β := β) he]; exact h1, fun p hp => ?_⟩
      obtain ⟨n', h3, h4⟩ := h2 p hp
      refine ⟨n', ?_, by omega⟩
      have : p.1 - i = (p.1 - i.succ) + 1 := by omega
      rw [this]; exact h3
    · simp at hr
theorem ffind_sound {P : Program} {kt : TypeId} {key : FV} {es : List (FV × FV × Nat)} {r : Option (Nat × FV × FV)} (hr : ffind P kt key es = some r) :
    findC P kt (absV β key) (absM β es) 0 = some (r.map fun p => (p.1, absV β p.2.2)) ∧ ∀ p, r = some p → ∃ n, es[p.1]? = some (p.2.1, p.2.2, n) := by
  obtain ⟨h1, h2⟩ := ffind_go (i := 0) hr
  exact ⟨h1, fun p hp => by obtain ⟨n, h3, _⟩ := h2 p hp; exact ⟨n, h3⟩⟩
theorem fckT_sound {P : Program} {kt : TypeId} {key : FV} (hk : fckT P kt key = true) : ckT P kt (absV β key) = true := by
  unfold fckT at hk
  unfold ckT
  cases hu : P.underlying kt with
  | none => rw [hu] at hk; exact hk
  | some d =>
    rw [hu] at hk
    cases d with
    | struct fs =>
      simp only at hk ⊢
      split at hk
      · rename_i xs
        simp only [absV]
        unfold fckF at hk
        rw [lall_eq, List.all_eq_true] at hk
        rw [List.all_eq_true]
        intro f hf
        obtain ⟨h1, h2⟩ := band_true (hk f hf)
        split at h2
        · rename_i v hv
          simp only [h1, fpart_sound (β := β) hv, Option.isSome_some, Bool.and_self]
        · simp at h2
      · simp at hk
    | _ => exact hk
theorem mapKV_iff {P : Program} {t kt e : TypeId} (hs : mapKV P t = some (kt, e)) : P.underlying t = some (.map kt e) := by
  unfold mapKV at hs
  split at hs
  · simp only [Option.some.injEq, Prod.mk.injEq] at hs; obtain ⟨rfl, rfl⟩ := hs; assumption
  · simp at hs
theorem hget_mapc {k : Nat} {b : Option Nat} {es : List (FV × FV × Nat)} {c : Nat} (hk : hget h k = some (b, some (.mapc es c))) : ∃ blk, nthO (absH β h) k = some (blk, some (.mapc (absM β es) c)) ∧ k < h.n ∧ ∀ o, (absE β k (b, some o)) = (blk, some (absO β k o)) := by
  obtain ⟨h1, h2⟩ := hget_sound (β := β) hk
  exact ⟨_, h1, h2, fun o => rfl⟩
theorem xLookup_sound {t : TypeId} {x ix : Operand} {ok : Bool} {v : FV} (hv : xLookup L h fr t x ix ok = some v) : QOk (qLookup L.P L.globs (absH β h) (absF β fr) dec 0 t x ix ok) (absV β v) := by
  unfold xLookup at hv
  unfold qLookup
  split at hv
  · rename_i kt e ht
    simp only [mapKV_iff ht]
    split at hv
    · rename_i key hkey
      simp only [fopv_sound (β := β) hkey]
      split at hv
      · rename_i hck
        split at hv
        · rename_i k hx
          have hx := fopv_sound (β := β) hx
          simp only [absV] at hx
          simp only [hx]
          split at hv
          · rename_i b es c hk
            obtain ⟨blk, h1, _⟩ := hget_mapc (β := β) hk
            simp only [h1, fckT_sound (β := β) hck]
            split at hv
            · rename_i i k0 v0 hf
              obtain ⟨h2, _⟩ := ffind_sound (β := β) hf
              simp only [h2, Option.map_some]
              have := ffound_sound (β := β) hv
              simp only [Option.map_some] at this
              exact ⟨True, by simp only [this], trivial⟩
            · rename_i hf
              obtain ⟨h2, _⟩ := ffind_sound (β := β) hf
              simp only [h2, Option.map_none]
              have := ffound_sound (β := β) hv
              simp only [Option.map_none] at this
              exact ⟨True, by simp only [this], trivial⟩
            · simp at hv
          · simp at hv
        · simp at hv
      · simp at hv
    · simp at hv
  · simp at hv
theorem xFold_cons (f : Int → Int → Bool) (k : IntKind) (l : Bool) (x : Int) (y : FV) (r : List FV) : xFold f k l x (y :: r) = (match y with
      | .int l' _ y => xFold f k (band l l') (match f y x with | true => y | false => x) r
      | _ => none) := rfl
theorem xFold_min {k : IntKind} : ∀ {r : List FV} {l : Bool} {x : Int} {v : FV}, xFold iblt k l x r = some v → foldMin k l x (absL β r) = some (absV β v)
  | [], l, x, v, hv => by simp [xFold, lrec] at hv; subst hv; rfl
  | y :: r, l, x, v, hv => by
    rw [xFold_cons] at hv
    split at hv
    · rename_i l' k' a
      have := xFold_min hv
      simp only [absL, foldMin, isInt_abs]
      rw [band_eq] at this
      rw [← this]
      congr 1
      rw [iblt_eq]
      by_cases h : a < x <;> simp [h]
    · simp at hv
theorem xFold_max {k : IntKind} : ∀ {r : List FV} {l : Bool} {x : Int} {v : FV}, xFold (fun y x => iblt x y) k l x r = some v → foldMax k l x (absL β r) = some (absV β v)
  | [], l, x, v, hv => by simp [xFold, lrec] at hv; subst hv; rfl
  | y :: r, l, x, v, hv => by
    rw [xFold_cons] at hv
    split at hv
    · rename_i l' k' a
      have := xFold_max hv
      simp only [absL, foldMax, isInt_abs]
      rw [band_eq] at this
      rw [← this]
      congr 1
      rw [iblt_eq]
      by_cases h : x < a <;> simp [h]
    · simp at hv
theorem xLen_sound {c : Call} {t : TypeId} {x v : FV} (hc : c.callee = .builtin .len) (ha : fopvs L h fr c.args.toList = some [x]) (ht : argT c = some t) (hv : xLen L h t x = some v) : QOk (qCall L.P L.globs (absH β h) (absF β fr) dec 0 c) (absV β v) := by
  have ht' : ∃ r, c.argTypes.toList = t :: r := by
    unfold argT at ht
    split at ht
    · rename_i u r hr; simp only [Option.some.injEq] at ht; subst ht; exact ⟨_, hr⟩
    · simp at ht
  obtain ⟨r, ht'⟩ := ht'
  unfold qCall
  simp only [hc, fopvs_sound (β := β) ha, ht', absL]
  unfold xLen at hv
  split at hv
  · split at hv
    · rename_i hs
      simp only [Option.some.injEq] at hv; subst hv
      exact ⟨True, by simp only [isStrT_iff hs, absV, bytesN_len, mkInt]; rfl, trivial⟩
    · simp at hv
  · split at hv
    · rename_i hu
      simp only [Option.some.injEq] at hv; subst hv
      exact ⟨True, by simp only [hu, absV, mkInt]; rfl, trivial⟩
    · simp at hv
  · split at hv
    · rename_i kv hkv
      obtain ⟨kt, e⟩ := kv
      split at hv
      · rename_i b es cl hk
        obtain ⟨blk, h1, _⟩ := hget_mapc (β := β) hk
        simp only [Option.some.injEq] at hv; subst hv
        exact ⟨True, by simp only [mapKV_iff hkv, absV, h1, mkInt, llen_eq, absM, List.length_map]; rfl, trivial⟩
      · simp at hv
    · simp at hv
  · split at hv
    · rename_i kv hkv
      obtain ⟨kt, e⟩ := kv
      simp only [Option.some.injEq] at hv; subst hv
      exact ⟨True, by simp only [mapKV_iff hkv, absV, mkInt]; rfl, trivial⟩
    · simp at hv
  · simp at hv
theorem xCap_sound {c : Call} {t : TypeId} {x v : FV} (hc : c.callee = .builtin .cap) (ha : fopvs L h fr c.args.toList = some [x]) (ht : argT c = some t) (hv : xCap L t x = some v) : QOk (qCall L.P L.globs (absH β h) (absF β fr) dec 0 c) (absV β v) := by
  have ht' : ∃ r, c.argTypes.toList = t :: r := by
    unfold argT at ht
    split at ht
    · rename_i u r hr; simp only [Option.some.injEq] at ht; subst ht; exact ⟨_, hr⟩
    · simp at ht
  obtain ⟨r, ht'⟩ := ht'
  unfold qCall
  simp only [hc, fopvs_sound (β := β) ha, ht', absL]
  unfold xCap at hv
  split at hv
  · split at hv
    · rename_i hu
      simp only [Option.some.injEq] at hv; subst hv
      exact ⟨True, by simp only [hu, absV, mkInt, opE, Cap.v]; rfl, trivial⟩
    · simp at hv
  · simp at hv
theorem xCall_sound {c : Call} {v : FV} (hv : xCall L h fr c = some v) : QOk (qCall L.P L.globs (absH β h) (absF β fr) dec 0 c) (absV β v) := by
  unfold xCall at hv
  split at hv
  · rename_i hc
    split at hv
    · rename_i x ha
      split at hv
      · rename_i t ht; exact xLen_sound hc ha ht hv
      · simp at hv
    · simp at hv
  · rename_i hc
    split at hv
    · rename_i x ha
      split at hv
      · rename_i t ht; exact xCap_sound hc ha ht hv
      · simp at hv
    · simp at hv
  · rename_i hc
    split at hv
    · rename_i l ha
      unfold xMin at hv
      split at hv
      · rename_i li k a r
        unfold qCall
        simp only [hc, fopvs_sound (β := β) ha, absL, isInt_abs]
        exact ⟨True, by simp only [xFold_min (β := β) hv], trivial⟩
      · simp at hv
    · simp at hv
  · rename_i hc
    split at hv
    · rename_i l ha
      unfold xMax at hv
      split at hv
      · rename_i li k a r
        unfold qCall
        simp only [hc, fopvs_sound (β := β) ha, absL, isInt_abs]
        exact ⟨True, by simp only [xFold_max (β := β) hv], trivial⟩
      · simp at hv
    · simp at hv
  · simp at hv
theorem fquiet_sound {op : Op} {v : FV} (hv : fquiet L h fr dec op = some v) : QOk (qeval L.P L.globs (absH β h) (absF β fr) dec 0 op) (absV β v) := by
  unfold fquiet at hv
  unfold qeval
  cases op <;> simp only at hv ⊢
  case move => exact ⟨True, by simp only [qMove, fopv_sound (β := β) hv], trivial⟩
  case assign => exact ⟨True, by simp only [qMove, fopv_sound (β := β) hv], trivial⟩
  case pick => exact xPick_sound hv
  case build => exact xBuild_sound hv
  case load =>
    split at hv
    · rename_i a ha
      exact ⟨True, by simp only [qLoad, fopv_sound (β := β) ha, fload_sound (β := β) hv], trivial⟩
    · simp at hv
  case nilCheck => exact xNilCheck_sound hv
  case binOp =>
    split at hv
    · rename_i a ha
      split at hv
      · rename_i b hb
        simp only [qBinOp, fopv_sound (β := β) ha, fopv_sound (β := β) hb]
        exact fbin_sound hv
      · simp at hv
    · simp at hv
  case unOp => exact xUnOp_sound hv
  case convert => exact xConvert_sound hv
  case makeInterface => exact xMakeInterface_sound hv
  case makeFunc => exact xMakeFunc_sound hv
  case slice => exact xSlice_sound hv
  case fieldAddr => exact xFieldAddr_sound hv
  case field => exact xField_sound hv
  case indexAddr => exact xIndexAddr_sound hv
  case index => exact xIndex_sound hv
  case lookup => exact xLookup_sound hv
  case extract => exact xExtract_sound hv
  case call => exact xCall_sound hv
  all_goals simp at hv
end
end Go.Fx

/- The executor 'Fx': objects, stores, calls, guards, what is behind a loud operation. -/
namespace Go.Fx
open Go Go.Sx

section
variable {β : Nat → Orc} {L : FCfg} {h : FH} {fr : FFr} {dec : List (Nat × Bool)}
theorem fflat_eq (z : List FV) : ∀ n, absL β (fflat z n) = (List.replicate n (absL β z)).flatten
  | 0 => rfl
  | n + 1 => by
    have e : fflat z (n + 1) = lapp z (fflat z n) := rfl
    rw [e, lapp_eq, absL_eq, List.map_append, ← absL_eq, ← absL_eq, fflat_eq z n, List.replicate_succ, List.flatten_cons]
theorem falloc_sound {op : Op} {fo : FO} {v : FV} (hv : falloc L h fr op = some (fo, v)) :
    ∃ mk, aeval L.P L.globs (absH β h) (absF β fr) op = some (absO β h.n fo, mk) ∧ mk h.n (β h.n).b = absV β v := by
  unfold falloc at hv
  unfold aeval
  cases op <;> try simp only at hv ⊢
  case alloc t =>
    split at hv
    · rename_i z hz
      simp only [Option.some.injEq, Prod.mk.injEq] at hv; obtain ⟨rfl, rfl⟩ := hv
      exact ⟨_, by simp only [fzeroT_sound (β := β) hz, absO, absC_l]; rfl, rfl⟩
    · simp at hv
  case box t x =>
    split at hv
    · rename_i a ha
      split at hv
      · rename_i l hl
        simp only [Option.some.injEq, Prod.mk.injEq] at hv; obtain ⟨rfl, rfl⟩ := hv
        exact ⟨_, by simp only [fopv_sound (β := β) ha, fcells_sound (β := β) hl, absO, absC_l]; rfl, rfl⟩
      · simp at hv
    · simp at hv
  case buildSlice t len ps =>
    split at hv
    · rename_i e he
      obtain ⟨hu, hue⟩ := sliceElem_iff he
      split at hv
      · rename_i z hz
        split at hv
        · rename_i h1
          split at hv
          · rename_i h2
            split at hv
            · rename_i cs hcs
              simp only [Option.some.injEq, Prod.mk.injEq] at hv; obtain ⟨rfl, rfl⟩ := hv
              rw [llen_eq] at h2
              have hcs := fbuild_sound (P := L.P) (β := β) hcs
              rw [fflat_eq] at hcs
              have e1 : Nat.ble (len * L.P.cellsOf e) 10000 = true := h1
              have e2 : (fun i => some (Nat.mul i (L.P.cellsOf e), L.P.cellsOf e)) = (fun i => some (i * L.P.cellsOf e, L.P.cellsOf e)) := rfl
              rw [e2] at hcs
              refine ⟨_, by simp only [hu, fzeroT_sound (β := β) hz, e1, hue, Bool.and_self, absL_len, h2, hcs, absO, absC_l]; rfl, ?_⟩
              simp only [absV, offA, opE]
            · simp at hv
          · simp at hv
        · simp at hv
      · simp at hv
    · simp at hv
  case makeMap t r =>
    cases r with
    | none =>
      simp only [Option.some.injEq, Prod.mk.injEq] at hv; obtain ⟨rfl, rfl⟩ := hv
      exact ⟨_, by simp only [absO, List.map_nil]; rfl, rfl⟩
    | some r => simp at hv
  all_goals simp at hv
theorem fstoreOp_sound {t : TypeId} {x y : Operand} {h' : FH} (hn : h.n ≤ 1000000) (hs : fstoreOp L h fr t x y = some h') :
    h'.n = h.n ∧ seval L.P L.globs (absH β h) (absF β fr) (.store t x y) = some (absH β h', True) := by
  unfold fstoreOp at hs
  simp only [seval]
  split at hs
  · rename_i a ha
    split at hs
    · rename_i v hv
      split at hs
      · rename_i l hl
        split at hs
        · rename_i h1
          split at hs
          · rename_i d hd
            obtain ⟨e1, e2⟩ := fstoreH_sound (β := β) hn hs
            rw [llen_eq] at h1
            exact ⟨e1, by simp only [fopv_sound (β := β) ha, fopv_sound (β := β) hv, fcells_sound (β := β) hl, absL_len, h1, hd, Option.isSome_some, Bool.and_self, e2]⟩
          · simp at hs
        · simp at hs
      · simp at hs
    · simp at hs
  · simp at hs
theorem absL_app (l m : List FV) : absL β (lapp l m) = absL β l ++ absL β m := by rw [lapp_eq]; simp [absL_eq]
theorem fcallee_sound {c : Call} {g : Nat} {args : List FV} (hc : fcallee L h fr c = some (g, args)) :
    ceval L.globs (absH β h) (absF β fr) (.call c) = some (g, absL β args) ∧ ∃ x, c.callee = .value x := by
  unfold fcallee at hc
  simp only [ceval]
  split at hc
  · rename_i x hx
    split at hc
    · rename_i g' l cap hf
      split at hc
      · rename_i as ha
        simp only [Option.some.injEq, Prod.mk.injEq] at hc; obtain ⟨rfl, rfl⟩ := hc
        have hf := fopv_sound (β := β) hf
        simp only [absV] at hf
        refine ⟨?_, x, hx⟩
        simp only [hx, hf, fopvs_sound (β := β) ha, absL_app, List.append_assoc]
      · simp at hc
    · simp at hc
  · simp at hc
/-! ### Guards -/
theorem fguard_yes {ops : List Oper} {o : Oper} (hg : fguard ops fr dec o = .yes) : guardQ ops (absF β fr) dec o = some true := by
  unfold fguard at hg
  unfold guardQ
  split at hg
  · rename_i h0; simp only [h0]
  · rename_i p h0
    simp only [h0]
    split at hg
    · simp at hg
    · rename_i t want ht
      simp only [ht]
      split at hg
      · rename_i x hx
        simp only [hx]
        split at hg
        · rename_i hb; rw [beqB_eq] at hb; rw [hb]
        · simp at hg
      · rename_i hx
        simp only [hx, absF_get]
        split at hg
        · rename_i l x hv
          simp only [hv, Option.map_some, absV]
          split at hg
          · split at hg
            · rename_i hb; rw [beqB_eq] at hb; simp only [mkBool, hb]
            · simp at hg
          · split at hg <;> simp at hg
        · simp at hg
        · simp at hg
theorem fguard_no {ops : List Oper} {o : Oper} (hg : fguard ops fr dec o = .no) : guardQ ops (absF β fr) dec o = some false := by
  unfold fguard at hg
  unfold guardQ
  split at hg
  · simp at hg
  · rename_i p h0
    simp only [h0]
    split at hg
    · simp at hg
    · rename_i t want ht
      simp only [ht]
      split at hg
      · rename_i x hx
        simp only [hx]
        split at hg
        · simp at hg
        · rename_i hb; rw [beqB_eq] at hb; rw [hb]
      · rename_i hx
        simp only [hx, absF_get]
        split at hg
        · rename_i l x hv
          simp only [hv, Option.map_some, absV]
          split at hg
          · split at hg
            · simp at hg
            · rename_i hb; rw [beqB_eq] at hb; simp only [mkBool, hb]
          · split at hg <;> simp at hg
        · rename_i hv
          simp only [hv, Option.map_some, absV]
        · simp at hg
theorem fguard_dec {ops : List Oper} {o : Oper} {t : Nat} {b : Bool} (hg : fguard ops fr dec o = .dec t b) :
    guardQ ops (absF β fr) dec o = none ∧ ∃ vc : Prop, decide1 ops (absF β fr) o [.d b] = some (t, b, [], vc) ∧ vc := by
  unfold fguard at hg
  unfold guardQ decide1
  split at hg
  · simp at hg
  · rename_i p h0
    simp only [h0]
    split at hg
    · simp at hg
    · rename_i t' want ht
      simp only [ht]
      split at hg
      · split at hg <;> simp at hg
      · rename_i hx
        simp only [hx, absF_get]
        split at hg
        · rename_i l x hv
          simp only [hv, Option.map_some, absV]
          split at hg
          · split at hg <;> simp at hg
          · split at hg
            · simp only [GQ.dec.injEq] at hg; obtain ⟨rfl, rfl⟩ := hg
              exact ⟨rfl, _, rfl, rfl⟩
            · simp only [GQ.dec.injEq] at hg; obtain ⟨rfl, rfl⟩ := hg
              exact ⟨rfl, _, rfl, rfl⟩
        · simp at hg
        · simp at hg
theorem fputD_abs (nt : Nat) (d : Option Nat) (v : FV) : absF β (fputD fr nt d v) = putD (absF β fr) nt d (absV β v) := by
  unfold fputD putD
  cases d with
  | none => rfl
  | some t =>
    simp only [Nat.succ_eq_add_one]
    cases Nat.ble (t + 1) nt
    · rfl
    · exact absF_put _ _ _
end
theorem fnEq_sound {f g : Fn} (hf : fnEq f g = true) : f = g := by
  unfold fnEq at hf
  split at hf
  · split at hf
    · rw [nbeq hf]
    · simp at hf
  · simp at hf
theorem oEq_sound {a b : Option Nat} (ho : oEq a b = true) : a = b := by
  unfold oEq at ho
  split at ho
  · split at ho
    · rfl
    · simp at ho
  · split at ho
    · simp at ho
    · rw [nbeq ho]
theorem ieq_sound {a b : Int} (he : ieq a b = true) : a = b := by rw [ieq_eq] at he; simpa using he
theorem vEqL_sound {E : FV → FV → Bool} (hE : ∀ x y, E x y = true → x = y) : ∀ {xs ys : List FV},
    List.rec (motive := fun _ => List FV → Bool) (fun ys => match ys with | [] => true | _ :: _ => false) (fun x _ ihl ys => match ys with | [] => false | y :: r => band (E x y) (ihl r)) xs ys = true → xs = ys
  | [], [], _ => rfl
  | [], _ :: _, he => by simp at he
  | _ :: _, [], he => by simp at he
  | x :: xs, y :: ys, he => by
    simp only at he
    obtain ⟨h1, h2⟩ := band_true he
    rw [hE _ _ h1, vEqL_sound hE h2]
theorem vEq_sound : ∀ (f : Nat) (x y : FV), vEq f x y = true → x = y
  | 0, _, _, he => by simp [vEq, nrec] at he
  | f + 1, x, y, he => by
    have ih := vEq_sound f
    have hl := fun {xs ys : List FV} => vEqL_sound ih (xs := xs) (ys := ys)
    cases x <;> cases y <;> first
      | rfl
      | (exact absurd he (by intro he; change false = true at he; simp at he))
      | skip
    case int.int l k a l' k' b =>
      change band (beqB l l') (band (kEq k k') (ieq a b)) = true at he
      obtain ⟨h1, h2⟩ := band_true he
      obtain ⟨h2, h3⟩ := band_true h2
      rw [beqB_true h1, kEq_eq h2, ieq_sound h3]
    case bool.bool l a l' b =>
      change band (beqB l l') (beqB a b) = true at he
      obtain ⟨h1, h2⟩ := band_true he
      rw [beqB_true h1, beqB_true h2]
    case str.str a la b lb =>
      change band (Nat.beq a b) (Nat.beq la lb) = true at he
      obtain ⟨h1, h2⟩ := band_true he
      rw [nbeq h1, nbeq h2]
    case ptr.ptr k o k' o' =>
      change band (Nat.beq k k') (Nat.beq o o') = true at he
      obtain ⟨h1, h2⟩ := band_true he
      rw [nbeq h1, nbeq h2]
    case elt.elt k i sz j k' i' sz' j' =>
      change band (Nat.beq k k') (band (Nat.beq i i') (band (Nat.beq sz sz') (Nat.beq j j'))) = true at he
      obtain ⟨h1, h2⟩ := band_true he
      obtain ⟨h2, h3⟩ := band_true h2
      obtain ⟨h3, h4⟩ := band_true h3
      rw [nbeq h1, nbeq h2, nbeq h3, nbeq h4]
    case sl.sl k sz lo a len n op k' sz' lo' a' len' n' op' =>
      change band (Nat.beq k k') (band (Nat.beq sz sz') (band (Nat.beq lo lo') (band (oEq a a') (band (Nat.beq len len') (band (Nat.beq n n') (beqB op op')))))) = true at he
      obtain ⟨h1, he⟩ := band_true he
      obtain ⟨h2, he⟩ := band_true he
      obtain ⟨h3, he⟩ := band_true he
      obtain ⟨h4, he⟩ := band_true he
      obtain ⟨h5, he⟩ := band_true he
      obtain ⟨h6, h7⟩ := band_true he
      rw [nbeq h1, nbeq h2, nbeq h3, oEq_sound h4, nbeq h5, nbeq h6, beqB_true h7]
    case mapp.mapp k k' =>
      change Nat.beq k k' = true at he
      rw [nbeq he]
    case agg.agg xs ys => rw [hl he]
    case tup.tup xs ys => rw [hl he]
    case fn.fn f1 xs zs g1 ys us =>
      obtain ⟨h1, h2⟩ := band_true he
      obtain ⟨h2, h3⟩ := band_true h2
      rw [fnEq_sound h1, hl h2, hl h3]
    case ifc.ifc t a u b =>
      obtain ⟨h1, h2⟩ := band_true he
      rw [nbeq h1, ih _ _ h2]
section
variable {β : Nat → Orc} {L : FCfg} {h : FH} {fr : FFr} {dec : List (Nat × Bool)}
theorem reL_cons (P : Program) (o : Oper) (rest : List Oper) (x : Nat) (deps r : List Nat) (j : Nat) :
    List.rec (motive := fun _ => Nat → List Oper) (fun _ => []) (fun o _ ih j => match hasB deps j || hasB (x :: r) j with
    | true => ih (Nat.succ j)
    | false => match Nat.beq (clsOf P o) 0 with
      | false => ih (Nat.succ j)
      | true => o :: ih (Nat.succ j)) (o :: rest) j = (match hasB deps j || hasB (x :: r) j with
    | true => List.rec (motive := fun _ => Nat → List Oper) (fun _ => []) (fun o _ ih j => match hasB deps j || hasB (x :: r) j with
    | true => ih (Nat.succ j)
    | false => match Nat.beq (clsOf P o) 0 with
      | false => ih (Nat.succ j)
      | true => o :: ih (Nat.succ j)) rest (Nat.succ j)
    | false => match Nat.beq (clsOf P o) 0 with
      | false => List.rec (motive := fun _ => Nat → List Oper) (fun _ => []) (fun o _ ih j => match hasB deps j || hasB (x :: r) j with
    | true => ih (Nat.succ j)
    | false => match Nat.beq (clsOf P o) 0 with
      | false => ih (Nat.succ j)
      | true => o :: ih (Nat.succ j)) rest (Nat.succ j)
      | true => o :: List.rec (motive := fun _ => Nat → List Oper) (fun _ => []) (fun o _ ih j => match hasB deps j || hasB (x :: r) j with
    | true => ih (Nat.succ j)
    | false => match Nat.beq (clsOf P o) 0 with
      | false => ih (Nat.succ j)
      | true => o :: ih (Nat.succ j)) rest (Nat.succ j)) := rfl
theorem frecheck_cons (nt : Nat) (ops : List Oper) (o : Oper) (l : List Oper) : frecheck L h nt fr ops dec (o :: l) = (match o.dst with
    | none => false
    | some t => match Nat.ble (Nat.succ t) nt with
      | false => false
      | true => match tget fr t with
        | none => false
        | some v' => match fguard ops fr dec o with
          | .no => match v' with | .undef => frecheck L h nt fr ops dec l | _ => false
          | .yes => match fquiet L h fr dec o.op with
            | some v => match vEq 5 v v' with | true => frecheck L h nt fr ops dec l | false => false
            | none => false
          | _ => false) := rfl
theorem frecheck_sound {nt : Nat} {ops : List Oper} {x : Nat} {deps r : List Nat} : ∀ {rest : List Oper} {j : Nat},
    frecheck L h nt fr ops dec (List.rec (motive := fun _ => Nat → List Oper) (fun _ => []) (fun o _ ih j => match hasB deps j || hasB (x :: r) j with
    | true => ih (Nat.succ j)
    | false => match Nat.beq (clsOf L.P o) 0 with
      | false => ih (Nat.succ j)
      | true => o :: ih (Nat.succ j)) rest j) = true →
    ∃ (vc : Prop) (eqs : List (SV × SV)), recheck L.P L.globs (absH β h) nt (absF β fr) ops dec x deps r j rest = some (vc, eqs) ∧ vc ∧ eqsOk eqs
  | [], j, _ => ⟨True, [], rfl, trivial, by intro p hp; simp at hp⟩
  | o :: rest, j, hr => by
    rw [reL_cons] at hr
    simp only [recheck]
    split at hr
    · rename_i hh
      obtain ⟨vc, eqs, h1, h2, h3⟩ := frecheck_sound hr
      simp only [Nat.succ_eq_add_one] at h1
      rw [h1]
      exact ⟨vc, eqs, by simp only [hh], h2, h3⟩
    · rename_i hh
      split at hr
      · rename_i hc
        obtain ⟨vc, eqs, h1, h2, h3⟩ := frecheck_sound hr
        simp only [Nat.succ_eq_add_one] at h1
        rw [h1]
        exact ⟨vc, eqs, by simp only [hh, hc], h2, h3⟩
      · rename_i hc
        rw [frecheck_cons] at hr
        split at hr
        · simp at hr
        · rename_i t ht
          split at hr
          · simp at hr
          · rename_i hle
            simp only [Nat.succ_eq_add_one] at hle
            split at hr
            · simp at hr
            · rename_i v' hv'
              split at hr
              · rename_i hg
                split at hr
                · obtain ⟨vc, eqs, h1, h2, h3⟩ := frecheck_sound hr
                  simp only [Nat.succ_eq_add_one] at h1
                  rw [h1]
                  exact ⟨vc, eqs, by simp only [hh, hc, ht, hle, absF_get, hv', Option.map_some, fguard_no (β := β) hg, absV], h2, h3⟩
                · simp at hr
              · rename_i hg
                split at hr
                · rename_i v hv
                  split at hr
                  · rename_i he
                    obtain ⟨vc, eqs, h1, h2, h3⟩ := frecheck_sound hr
                    simp only [Nat.succ_eq_add_one] at h1
                    rw [h1]
                    obtain ⟨vc', q1, q2⟩ := fquiet_sound (β := β) (dec := dec) hv
                    refine ⟨vc' ∧ vc, (absV β v, absV β v') :: eqs, by simp only [hh, hc, ht, hle, absF_get, hv', Option.map_some, fguard_yes (β := β) hg, q1], ⟨q2, h2⟩, ?_⟩
                    intro p hp
                    rcases List.mem_cons.1 hp with rfl | hp
                    · simp only [vEq_sound _ _ _ he]
                    · exact h3 p hp
                  · simp at hr
                · simp at hr
              · simp at hr
def absS (β : Nat → Orc) (f : FF) : SF := ⟨f.fn, f.nt, absF β f.fr, f.todo⟩
def cfg (L : FCfg) : Cfg := ⟨L.P, L.stops, L.globs⟩
theorem fresume_sound {f f' : FF} {v : FV} (hr : fresume L h f v = some f') : ∃ (vc : Prop) (eqs : List (SV × SV)), resume (cfg L) (absH β h) (absS β f) (absV β v) = some (absS β f', vc, eqs) ∧ vc ∧ eqsOk eqs := by
  unfold fresume at hr
  obtain ⟨fn, nt, fr, todo⟩ := f
  simp only at hr
  unfold resume absS
  simp only
  split at hr
  · simp only [Option.some.injEq] at hr; subst hr
    exact ⟨True, [], by simp only [fputD_abs, Nat.succ_eq_add_one], trivial, by intro p hp; simp at hp⟩
  · rename_i ops x r dec k
    split at hr
    · rename_i o ho
      simp only [ho]
      split at hr
      · rename_i hp
        simp only [hp]
        split at hr
        · rename_i hre
          simp only [Option.some.injEq] at hr; subst hr
          obtain ⟨vc, eqs, h1, h2, h3⟩ := frecheck_sound (β := β) (j := 0) hre
          rw [fputD_abs] at h1
          simp only [cfg, h1]
          exact ⟨vc, eqs, by simp only [fputD_abs], h2, h3⟩
        · simp at hr
      · simp at hr
    · simp at hr
  · simp at hr
theorem fexit_sound {id : Nat} : ∀ {k k' : List SItem}, fexit id k = some k' → exitS id k = some k'
  | [], k', he => by simp [fexit, lrec] at he
  | x :: r, k', he => by
    cases x with
    | blk i =>
      have e : fexit id (.blk i :: r) = (match Nat.beq i id with | true => some r | false => fexit id r) := rfl
      rw [e] at he
      simp only [exitS]
      split at he
      · rename_i hb; simp only [hb]; exact he
      · rename_i hb; simp only [hb]; exact fexit_sound he
    | code c => exact fexit_sound (k := r) he
    | loop c => exact fexit_sound (k := r) he
    | scope c => exact fexit_sound (k := r) he
    | reg a b c d => exact fexit_sound (k := r) he
    | dreg a b c => exact fexit_sound (k := r) he
theorem fmkFr_go : ∀ (l : List FV) (i : Nat) (fr : FFr), absF β (List.rec (motive := fun _ => Nat → FFr → FFr) (fun _ fr => fr) (fun x _ ih i fr => ih (Nat.succ i) (tput fr i x)) l i fr) = mkFr i (absL β l) (absF β fr)
  | [], _, _ => rfl
  | x :: r, i, fr => by
    simp only [absL, mkFr]
    rw [fmkFr_go r, absF_put]
theorem fmkFr_abs (l : List FV) : absF β (fmkFr l) = mkFr 0 (absL β l) .e := fmkFr_go l 0 .e
theorem fres_sound : ∀ {l : List ResultVar} {vs : List FV}, fres L h fr l = some vs → ∃ vc : Prop, resV L.P (absH β h) (absF β fr) l = some (absL β vs, vc) ∧ vc
  | [], vs, hr => by simp [fres, lrec] at hr; subst hr; exact ⟨True, rfl, trivial⟩
  | .tmp t :: r, vs, hr => by
    have e : fres L h fr (.tmp t :: r) = (match tget fr t with
      | some v => match fres L h fr r with | some l => some (v :: l) | none => none
      | none => none) := rfl
    rw [e] at hr
    split at hr
    · rename_i v hv
      split at hr
      · rename_i l hl
        simp only [Option.some.injEq] at hr; subst hr
        obtain ⟨vc, h1, h2⟩ := fres_sound hl
        exact ⟨vc, by simp only [resV, absF_get, hv, Option.map_some, h1, absL], h2⟩
      · simp at hr
    · simp at hr
  | .cell a t :: r, vs, hr => by
    have e : fres L h fr (.cell a t :: r) = (match tget fr a with
      | some x => match fload L.P h t x with
        | some v => match fres L h fr r with | some l => some (v :: l) | none => none
        | none => none
      | none => none) := rfl
    rw [e] at hr
    split at hr
    · rename_i x hx
      split at hr
      · rename_i v hv
        split at hr
        · rename_i l hl
          simp only [Option.some.injEq] at hr; subst hr
          obtain ⟨vc, h1, h2⟩ := fres_sound hl
          exact ⟨True ∧ vc, by simp only [resV, absF_get, hx, Option.map_some, fload_sound (β := β) hv, h1, absL], trivial, h2⟩
        · simp at hr
      · simp at hr
    · simp at hr
theorem fretV_sound {fn : Nat} {v : FV} (hr : fretV L h fn fr = some v) : ∃ vc : Prop, retV L.P (absH β h) fn (absF β fr) = some (absV β v, vc) ∧ vc := by
  unfold fretV resL at hr
  unfold retV
  cases hf : L.P.funcs[fn]? with
  | none => rw [hf] at hr; simp at hr
  | some f =>
    rw [hf] at hr
    simp only at hr ⊢
    cases hl : fres L h fr f.results.toList with
    | none => rw [hl] at hr; simp at hr
    | some l =>
      rw [hl] at hr
      obtain ⟨vc, h1, h2⟩ := fres_sound (β := β) hl
      refine ⟨vc, ?_, h2⟩
      rw [h1]
      match l, hr with
      | [], hr => simp only [Option.some.injEq] at hr; subst hr; rfl
      | [x], hr => simp only [Option.some.injEq] at hr; subst hr; rfl
      | x :: y :: r, hr => simp only [Option.some.injEq] at hr; subst hr; rfl
end
end Go.Fx

/- The executor 'Fx': steps. -/
namespace Go.Fx
open Go Go.Sx

def LC (L : FCfg) (prim : Hp → Fr → Op → PR) : LCfg := ⟨cfg L, prim⟩
/-- What is told from outside, by both executors. -/
def PrimSim (L : FCfg) (prim : Hp → Fr → Op → PR) : Prop :=
  ∀ (β : Nat → Orc) (h : FH) (fr : FFr) (op : Op), h.n ≤ 1000000 → match fprim L h fr op with
    | .det h' v => h'.n = h.n ∧ ∃ vc : Prop, prim (absH β h) (absF β fr) op = .det ⟨absH β h', absV β v⟩ vc ∧ vc
    | .new h' v => h'.n = h.n + 1 ∧ h'.n ≤ 1000000 ∧ ∃ f eqs, prim (absH β h) (absF β fr) op = .new f eqs ∧ eqsOk eqs ∧
        ∀ β' : Nat → Orc, absH β' h = absH β h → absF β' fr = absF β fr → f (β' h.n) = ⟨absH β' h', absV β' v⟩
    | .no => True
section
variable {β : Nat → Orc} {L : FCfg} {prim : Hp → Fr → Op → PR} {h : FH} {fr : FFr} {dec : List (Nat × Bool)}
def ExtOk (L : FCfg) : Prop := ∀ g, extOf g L.ext ≠ 0 → memB g L.stops = true
/-- The other executor doesn't know an operation that is told from outside. -/
def LoudQ (β : Nat → Orc) (L : FCfg) (h : FH) (fr : FFr) (dec : List (Nat × Bool)) (op : Op) : Prop :=
  qeval L.P L.globs (absH β h) (absF β fr) dec 0 op = none ∧ aeval L.P L.globs (absH β h) (absF β fr) op = none ∧ seval L.P L.globs (absH β h) (absF β fr) op = none ∧
  (ceval L.globs (absH β h) (absF β fr) op = none ∨ ∃ g args, ceval L.globs (absH β h) (absF β fr) op = some (g, args) ∧ memB g L.stops = true)
theorem fbuiltin_loud {c : Call} {bi : Builtin} {ts : List TypeId} {l : List FV} (hc : c.callee = .builtin bi) (hne : fbuiltin L h bi ts l ≠ .no) : LoudQ β L h fr dec (.call c) := by
  have hq : qeval L.P L.globs (absH β h) (absF β fr) dec 0 (.call c) = none := by
    simp only [qeval, qCall, hc]
    cases opvs L.globs (absH β h) (absF β fr) c.args.toList with
    | none => rfl
    | some l => cases bi <;> first | rfl | exact absurd rfl hne
  exact ⟨hq, rfl, rfl, .inl (by simp only [ceval, hc])⟩
theorem convK_1 {P : Program} {s d : TypeId} (hk : convK P s d = 1) : (∃ e, P.underlying s = some (.slice e) ∧ P.underlying e = some (.int .u8)) ∧ P.underlying d = some .string := by
  unfold convK at hk
  repeat' split at hk
  all_goals first
    | (simp at hk; done)
    | exact ⟨⟨_, by assumption, by assumption⟩, by assumption⟩
theorem convK_3 {P : Program} {s d : TypeId} (hk : convK P s d = 3) : P.underlying d = some .unsafePointer ∨ ∃ e, P.underlying d = some (.pointer e) := by
  unfold convK at hk
  repeat' split at hk
  all_goals first
    | (simp at hk; done)
    | exact .inl (by assumption)
    | exact .inr ⟨_, by assumption⟩
theorem fprim_loud (hL : ExtOk L) {op : Op} (hne : fprim L h fr op ≠ .no) : LoudQ β L h fr dec op := by
  unfold fprim at hne
  cases op <;> (try simp only at hne)
  case call c =>
    split at hne
    · rename_i bi hc
      split at hne
      · exact fbuiltin_loud hc hne
      · exact absurd rfl hne
    · rename_i hc
      split at hne
      · rename_i g args hg
        obtain ⟨h1, x, h2⟩ := fcallee_sound (β := β) hg
        refine ⟨by simp only [qeval, qCall, h2], rfl, rfl, .inr ⟨g, _, h1, hL g ?_⟩⟩
        intro h0
        rw [h0] at hne
        exact hne rfl
      · exact absurd rfl hne
  case convert s d x =>
    refine ⟨?_, rfl, rfl, .inl rfl⟩
    split at hne
    · rename_i v hv
      have hv := fopv_sound (β := β) hv
      simp only [qeval, qConvert, hv]
      cases hs : L.P.underlying s with
      | none => rfl
      | some ds =>
        simp only
        unfold fconv at hne
        split at hne
        · rename_i hk
          rw [(convK_1 hk).2]
          simp only
          split at hne
          · rfl
          · exact absurd rfl hne
        · rename_i hk
          rcases convK_3 hk with he | ⟨e, he⟩ <;> rw [he]
        · exact absurd rfl hne
    · exact absurd rfl hne
  all_goals first
    | exact absurd rfl hne
    | exact ⟨rfl, rfl, rfl, .inl rfl⟩
end
end Go.Fx
