import Derived.Test.YtaalpiacinifkaaGreatDoorG2
import Derived.Test.YtaalpiacinifkaaGreatDoorG3
import Derived.Test.YtaalpiacinifkaaGreatDoorG4
import Derived.Test.YtaalpiacinifkaaGreatDoorG6
/- Part of the proof that ForwardNone of law 21 returns true whatever it is called with. No condition. -/
set_option linter.all false
/- The contracts of device.blank and of law 21's awake. -/
namespace Go.Fx
open Go Go.Sx Go.Proofs

theorem ext_cases {l : List (Nat × Nat)} {g n : Nat} (h : extOf g l = n) (hn : n ≠ 0) : (g, n) ∈ l := by
  induction l with
  | nil => exact absurd h.symm hn
  | cons p r ih =>
    have e : extOf g (p :: r) = (match Nat.beq p.1 g with | true => p.2 | false => extOf g r) := rfl
    rw [e] at h
    split at h
    · rename_i hb
      have hb := Nat.eq_of_beq_eq_true hb
      subst hb; subst h
      simp
    · exact List.mem_cons_of_mem _ (ih h)
theorem ext_ok {L : FCfg} (h : ∀ p ∈ L.ext, memB p.1 L.stops = true) : ExtOk L := by
  intro g hg
  exact h _ (ext_cases rfl hg)
theorem mixed : Tryz.prog.follows .mixedOrders = true := Tryz.sortA.mixed
theorem keys_cases : ∀ kf, memB kf [279, 298] = true → kf = 279 ∨ kf = 298 := by
  intro kf h
  have := memB_iff.1 h
  simpa using this
theorem facts1 : Facts L1 := by
  refine ⟨fun g h => ?_, fun g h => ?_, sortedOk rfl (fun g h => ?_) keys_cases rfl, fun g h => ?_⟩
  · have := ext_cases h (by omega)
    simp [L1] at this
    subst this; exact noEsc
  · have := ext_cases h (by omega)
    simp [L1] at this
    subst this; exact makeNo
  · have := ext_cases h (by omega)
    simp [L1] at this
  · have := ext_cases (l := L1.ext) (g := g) rfl (by omega)
    simp [L1] at this
    rcases this with ⟨rfl, h1⟩ | ⟨rfl, h1⟩ <;> simp [L1, extOf, lrec] at h
theorem extok1 : ExtOk L1 := ext_ok (by simp [L1, memB])
theorem blank_ok : (∃ code n, enterQ Tryz.prog 174 = some (code, n)) ∧ FnOk Tryz.prog 174 #[] [] (QC L1 false (.str 0 64)) :=
  fnOk_run mixed extok1 facts1 blank_run
theorem extok2 : ExtOk L2 := ext_ok (by simp [L2, memB])
theorem facts2 : Facts L2 := by
  refine ⟨fun g h => ?_, fun g h => ?_, sortedOk rfl (fun g h => ?_) keys_cases rfl, fun g h need c v hc hv => ?_⟩
  · have := ext_cases h (by omega)
    simp [L2] at this
    subst this; exact noEsc
  · have := ext_cases h (by omega)
    simp [L2] at this
    subst this; exact makeNo
  · have := ext_cases h (by omega)
    simp [L2] at this
    exact this
  · have hm := ext_cases (l := L2.ext) (g := g) rfl (by omega)
    have hcase : g = 174 ∧ extOf g L2.ext = 10 := by
      simp only [L2, List.mem_cons, Prod.mk.injEq, List.not_mem_nil, or_false] at hm
      rcases hm with ⟨_, h1⟩ | ⟨_, h1⟩ | ⟨_, h1⟩ | h1
      · have : extOf g L2.ext = 1 := h1
        omega
      · have : extOf g L2.ext = 2 := h1
        omega
      · have : extOf g L2.ext = 4 := h1
        omega
      · exact h1
    obtain ⟨rfl, h10⟩ := hcase
    rw [h10] at hc
    simp only [L2, List.getElem?_cons_zero, Nat.sub_self, Option.some.injEq, Prod.mk.injEq] at hc
    obtain ⟨rfl, rfl⟩ := hc
    refine ⟨blank_ok.1, blank_ok.2.mono ?_⟩
    rintro M x ⟨⟨v', h1, h2⟩, h3⟩
    rw [hv] at h1
    simp only [Option.some.injEq] at h1
    subst h1
    exact ⟨h2, h3⟩
theorem awake_ok : (∃ code n, enterQ Tryz.prog 18 = some (code, n)) ∧ FnOk Tryz.prog 18 #[] (needL L2 true) (QC L2 true (.bool true true)) :=
  fnOk_run mixed extok2 facts2 awake_run
theorem extok3 : ExtOk L3 := ext_ok (by simp [L3, memB])
theorem facts3 : Facts L3 := by
  refine ⟨fun g h => ?_, fun g h => ?_, sortedOk rfl (fun g h => ?_) keys_cases rfl, fun g h need c v hc hv => ?_⟩
  · have := ext_cases h (by omega)
    simp [L3] at this
    subst this; exact noEsc
  · have := ext_cases h (by omega)
    simp [L3] at this
    subst this; exact makeNo
  · have := ext_cases h (by omega)
    simp [L3] at this
    exact this
  · have hm := ext_cases (l := L3.ext) (g := g) rfl (by omega)
    have hcase : (g = 174 ∧ extOf g L3.ext = 10) ∨ (g = 18 ∧ extOf g L3.ext = 11) := by
      simp only [L3, List.mem_cons, Prod.mk.injEq, List.not_mem_nil, or_false] at hm
      rcases hm with ⟨_, h1⟩ | ⟨_, h1⟩ | ⟨_, h1⟩ | h1 | h1
      · have : extOf g L3.ext = 1 := h1
        omega
      · have : extOf g L3.ext = 2 := h1
        omega
      · have : extOf g L3.ext = 4 := h1
        omega
      · exact .inl h1
      · exact .inr h1
    rcases hcase with ⟨rfl, h10⟩ | ⟨rfl, h10⟩
    · rw [h10] at hc
      simp only [L3, List.getElem?_cons_zero, Nat.sub_self, Option.some.injEq, Prod.mk.injEq] at hc
      obtain ⟨rfl, rfl⟩ := hc
      refine ⟨blank_ok.1, blank_ok.2.mono ?_⟩
      rintro M x ⟨⟨v', h1, h2⟩, h3⟩
      rw [hv] at h1
      simp only [Option.some.injEq] at h1
      subst h1
      exact ⟨h2, h3⟩
    · rw [h10] at hc
      simp only [L3, List.getElem?_cons_succ, List.getElem?_cons_zero, show 11 - 10 = 0 + 1 from rfl, Option.some.injEq, Prod.mk.injEq] at hc
      obtain ⟨rfl, rfl⟩ := hc
      refine ⟨awake_ok.1, awake_ok.2.mono ?_⟩
      rintro M x ⟨⟨v', h1, h2⟩, h3⟩
      rw [hv] at h1
      simp only [Option.some.injEq] at h1
      subst h1
      exact ⟨h2, h3⟩
end Go.Fx
