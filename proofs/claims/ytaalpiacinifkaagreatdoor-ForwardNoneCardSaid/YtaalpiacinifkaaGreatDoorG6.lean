import Derived.Test.YtaalpiacinifkaaGreatDoorF5
import Derived.Test.YtaalpiacinifkaaGreatDoorG5
import Derived.Shelf.SortM.Plain
import Derived.Shelf.SortM.SortNone
/- Part of the proof that ForwardNone of law 21 returns true whatever it is called with. No condition. -/
set_option linter.all false
/- slices.Sorted of a map's keys: what it hands back is what the executor says. -/
namespace Go.Fx
open Go Go.Sx Go.Proofs Go.RowKit Go.Maps Go.Sort Go.Shelf

theorem sorts (m : Nat) : AnyZI.SortsIn Tryz.prog Tryz.sortedA_ren Fence.wide m :=
  ⟨fun blk off cap ss W hH hblk hsz => callsIn_wide.2 (AnyM.slices_Sort_int Tryz.sortA blk off cap ss W hH hblk hsz),
   fun p cap W => callsIn_wide.2 (AnyM.slices_Sort_int_none Tryz.sortA p cap W)⟩
theorem insS_perm (x : Int) : ∀ l : List Int, (insS x l).Perm (x :: l)
  | [] => .refl _
  | y :: r => by
    simp only [insS]
    split
    · exact ((insS_perm x r).cons y).trans (.swap x y r)
    · exact .refl _
theorem sortS_perm : ∀ l : List Int, (sortS l).Perm l
  | [] => .refl _
  | x :: r => (insS_perm x (sortS r)).trans ((sortS_perm r).cons x)
theorem insS_sorted (x : Int) : ∀ {l : List Int}, l.Pairwise (· ≤ ·) → (insS x l).Pairwise (· ≤ ·)
  | [], _ => by simp [insS]
  | y :: r, h => by
    obtain ⟨h1, h2⟩ := List.pairwise_cons.1 h
    simp only [insS]
    split
    · refine List.pairwise_cons.2 ⟨fun z hz => ?_, insS_sorted x h2⟩
      rcases List.mem_cons.1 ((insS_perm x r).mem_iff.1 hz) with rfl | hz
      · omega
      · exact h1 z hz
    · refine List.pairwise_cons.2 ⟨fun z hz => ?_, h⟩
      rcases List.mem_cons.1 hz with rfl | hz
      · omega
      · have := h1 z hz; omega
theorem sortS_sorted : ∀ l : List Int, (sortS l).Pairwise (· ≤ ·)
  | [] => by simp [sortS]
  | x :: r => insS_sorted x (sortS_sorted r)
theorem mergeSort_sortS {ss l : List Int} (h : ss.Perm l) : ss.mergeSort (fun x y => decide (x ≤ y)) = sortS l := by
  have tr : ∀ a b c : Int, leI a b = true → leI b c = true → leI a c = true := fun a b c h1 h2 => by simp only [leI, decide_eq_true_eq] at *; exact Int.le_trans h1 h2
  have to : ∀ a b : Int, (leI a b || leI b a) = true := fun a b => by simp only [leI, Bool.or_eq_true, decide_eq_true_eq]; exact Int.le_total a b
  refine List.Perm.eq_of_pairwise (le := fun a b => leI a b = true) (fun a b _ _ h1 h2 => ?_) (List.pairwise_mergeSort tr to ss) ?_ (((List.mergeSort_perm ss leI).trans h).trans (sortS_perm l).symm)
  · simp only [leI, decide_eq_true_eq] at h1 h2
    exact Int.le_antisymm h1 h2
  · exact (sortS_sorted l).imp fun {a b} hab => by simp only [leI, decide_eq_true_eq]; exact hab
theorem keysS_den (ids : Nat → Nat) : ∀ {es : List (SV × SV × Nat)} {l : List Int}, keysS es = some l → es.map (fun e => e.1.den ids) = l.map (Value.int .i64)
  | [], l, h => by simp [keysS] at h; subst h; rfl
  | e :: r, l, h => by
    simp only [keysS] at h
    split at h
    · rename_i lb a he
      split at h
      · rename_i l' hl
        simp only [Option.some.injEq] at h
        subst h
        simp only [List.map_cons, isInt_den he, keysS_den ids hl]
      · simp at h
    · simp at h
abbrev Rany : Value → Option (DataW Unit × List MemPlace) := fun _ => some (.lit (.bool true), [])
theorem keys_own {w : World} {b : Nat} {es : List (SV × SV × Nat)} {ids : Nat → Nat} {c : Nat} {l : List Int} (hh : w.heap[b]? = some (.map (es.map (entV ids)).toArray c)) (hl : keysS es = some l)
    (hk : keysOkS l (es.map (fun e => e.2.2)) c = true) (hlen : l.length ≤ 1000000) :
    ∃ D0 : DataW Unit, w.ownsMap Tryz.prog 3 Rany b l.length D0 ∧ (intKeys D0).Perm l ∧ Maps.size D0 = l.length := by
  simp only [keysOkS, Bool.and_eq_true, decide_eq_true_eq, List.all_eq_true] at hk
  obtain ⟨k1, k2, k3, k4⟩ := hk
  have hden := keysS_den ids hl
  have hel : es.length = l.length := by have := congrArg List.length hden; simpa using this
  have hkeys : (es.map (entV ids)).map (·.key) = l.map (Value.int .i64) := by rw [← hden, List.map_map]; rfl
  have hborn : (es.map (entV ids)).map (·.born) = es.map (fun e => e.2.2) := by rw [List.map_map]; rfl
  have hwf : ∀ a ∈ l, (Lit.int .i64 a).wf = true := by
    intro a ha
    obtain ⟨p1, p2⟩ := k4 a ha
    simp only [Lit.wf, Bool.and_eq_true, decide_eq_true_eq]
    exact ⟨p1, p2⟩
  have hrd : ∀ x ∈ es.map (entV ids), ∃ a ∈ l, x.key = Value.int .i64 a ∧ WideElems.rd Tryz.prog 3 Rany x = some (.int .i64 a, .lit (.bool true)) := by
    intro x hx
    have : x.key ∈ l.map (Value.int .i64) := by rw [← hkeys]; exact List.mem_map_of_mem hx
    obtain ⟨a, ha, hax⟩ := List.mem_map.1 this
    refine ⟨a, ha, hax.symm, ?_⟩
    unfold WideElems.rd
    rw [← hax, keyOf_int_mk Tryz.underlying3 (hwf a ha)]
    rfl
  have hfit : WideElems.Fit Tryz.prog 3 Rany (es.map (entV ids)).toArray c := by
    refine ⟨?_, ⟨?_, ?_, ?_⟩, ?_⟩
    · simp only [List.size_toArray, List.length_map, hel, maxLen]; omega
    · intro x hx
      have : x.born ∈ es.map (fun e => e.2.2) := by rw [← hborn]; exact List.mem_map_of_mem (by simpa using hx)
      exact k3 _ this
    · show ((es.map (entV ids)).map (·.born)).Nodup
      rw [hborn]; exact k2
    · show ((es.map (entV ids)).map (·.key)).Nodup
      rw [hkeys]
      exact List.pairwise_map.2 (k1.imp fun hne he => hne (by simpa using he))
    · intro x hx
      obtain ⟨a, _, _, h⟩ := hrd x (by simpa using hx)
      exact ⟨_, h⟩
  have hrg : ((es.map (entV ids)).map (WideElems.rg Tryz.prog 3 Rany)).map (fun p => intOf p.1) = l := by
    have h1 : ((es.map (entV ids)).map (WideElems.rg Tryz.prog 3 Rany)).map (fun p => intOf p.1) = ((es.map (entV ids)).map (·.key)).map (fun v => match v with | .int _ a => a | _ => 0) := by
      generalize es.map (entV ids) = E at hrd
      rw [List.map_map, List.map_map]
      refine List.map_congr_left fun x hx => ?_
      obtain ⟨a, _, h2, h3⟩ := hrd x hx
      simp only [WideElems.rg, h3, Option.getD_some, intOf, Function.comp, h2]
    rw [h1, hkeys, List.map_map]
    exact List.map_id' l
  have hperm := WideShapes.sorted_perm ((es.map (entV ids)).map (WideElems.rg Tryz.prog 3 Rany))
  refine ⟨.map (((es.map (entV ids)).map (WideElems.rg Tryz.prog 3 Rany)).foldr DataW.insert []), ⟨_, c, hh, hfit, by simp [hel], by simp⟩, ?_, ?_⟩
  · have h2 := hperm.map (fun p => intOf p.1)
    rw [hrg] at h2
    exact h2
  · have := hperm.length_eq
    simp only [Maps.size]
    rw [this]; simp [hel]
end Go.Fx

/- slices.Sorted of a map's keys, told from outside. -/
namespace Go.Fx
open Go Go.Sx Go.Proofs Go.RowKit Go.Maps Go.Sort Go.Shelf

theorem seq_gives {kf : Nat} (hkf : kf = 279 ∨ kf = 298) {w : World} {B m n : Nat} {D0 : DataW Unit} (hB : B < w.heap.size) (hm : w.cell? ⟨B, 0, none⟩ = some (.map (some m))) (hown : w.ownsMap Tryz.prog 3 Rany m n D0) :
    SeqGives Fence.wide 2 Tryz.prog kf #[.pointer (some ⟨B, 0, none⟩)] encZ (fun ss => ss.Perm (intKeys D0)) (Maps.size D0) w := by
  rcases hkf with rfl | rfl
  · exact AnyZI.keys_gives (ρ := Tryz.keysA_ren) { Tryz.keysA with } Fence.wide 2 trivial rfl (by omega) B m n D0 w hB hm hown
  · exact AnyZI.keys_gives (ρ := Tryz.keysB_ren) { Tryz.keysB with } Fence.wide 2 trivial rfl (by omega) B m n D0 w hB hm hown
theorem kf_enters {kf : Nat} (hkf : kf = 279 ∨ kf = 298) : ∀ args w, (callFunc kf args).run Tryz.prog w = .ok (.enter kf args) w := by
  rcases hkf with rfl | rfl
  · exact enters_of Tryz.func279 (by kernel_rfl) rfl
  · exact enters_of Tryz.func298 (by kernel_rfl) rfl
theorem sorted_calls {kf : Nat} (hkf : kf = 279 ∨ kf = 298) {w : World} {B m : Nat} {es : List (SV × SV × Nat)} {ids : Nat → Nat} {c : Nat} {l : List Int} (hB : B < w.heap.size) (hm : w.cell? ⟨B, 0, none⟩ = some (.map (some m)))
    (hh : w.heap[m]? = some (.map (es.map (entV ids)).toArray c)) (hl : keysS es = some l) (hk : keysOkS l (es.map (fun e => e.2.2)) c = true) (hlen : l.length ≤ 1000000) :
    Calls Tryz.prog 222 #[.func (.func kf) #[] #[.pointer (some ⟨B, 0, none⟩)]] w fun e w' => ∃ v : Value, e = .returned v ∧ w'.ownsRow w.heap.size 3 1 v l.length ((sortS l).map encZ) ∧ (v = .slice none 0 0 ↔ l = []) ∧ Below w.heap.size w w' := by
  obtain ⟨D0, h1, h2, h3⟩ := keys_own hh hl hk hlen
  have hseq := seq_gives hkf hB hm h1
  have cS := AnyZI.sorted_in Tryz.sortedA Fence.wide 5 trivial trivial trivial trivial rfl (by omega) (sorts _) (enters_of Tryz.func278 (by kernel_rfl) rfl) kf #[.pointer (some ⟨B, 0, none⟩)] trivial (kf_enters hkf) _ _ (by rw [h3]; simp only [maxLen]; omega) (by rw [h3]; omega) _ hseq
  refine (callsIn_wide.1 cS).mono fun e w' hx => ?_
  obtain ⟨v, ss, rfl, hp, hrow, hnil, hb⟩ := hx
  have hp2 := hp.trans h2
  have hlen2 : ss.length = l.length := hp2.length_eq
  rw [mergeSort_sortS hp2, hlen2] at hrow
  refine ⟨v, rfl, hrow, ?_, hb⟩
  rw [hnil]
  constructor
  · intro h; subst h; exact List.eq_nil_of_length_eq_zero (by simpa using hlen2.symm)
  · intro h; subst h; exact List.eq_nil_of_length_eq_zero (by simpa using hlen2)
theorem call_opok2 {P : Program} {e : Env} {w : World} {F : List (Nat × Obj)} {o : Oper} {g : Nat} {args : Array Value} (hent : ∀ args w, (callFunc g args).run P w = .ok (.enter g args) w)
    (hrun : ∀ w, (execOp e.a.eval o).run P w = (callFunc g args).run P w) {Qw : Value → World → Prop}
    (hcalls : Calls P g args w fun e w' => ∃ v, e = .returned v ∧ Qw v w') {R : PRes → Prop}
    (hQ : ∀ v w', Qw v w' → ∃ r : PRes, R r ∧ v = r.v.den r.H.ids ∧ OwnL w' (r.H.den ++ F) ∧ r.H.ok ∧ Ext e.H r.H ∧ r.v.ok r.H.length r.H.ids ∧ w'.os = w.os ∧ w'.output = w.output) : OpOk P e.H F w e.a o R := by
  intro b k cs ops i rest ho hw
  obtain ⟨en, w', fr, ⟨v, rfl, h1⟩, h2, _, h3⟩ := hcalls (b.at e.a (.inRegion ops (i :: rest) :: k) :: cs)
  obtain ⟨r, q1, q2, q3, q4, q5, q6, q7, q8⟩ := hQ v w' h1
  refine ⟨r, w', q1, ?_, q3, q4, q5, q6, q7, q8⟩
  have s1 := step_enter (P := P) (b := b) (k := k) (cs := cs) (w := w) (w' := w) (rest := rest) ho hw ((hrun w).trans (hent _ w))
  have s3 := step_leave_returned (c := b.at e.a (.inRegion ops (i :: rest) :: k)) (cs := cs) h3
  rw [fin_at ho, q2] at s3
  exact ((Steps.one s1).trans h2).trans (.one s3)
theorem own_below {w w' : World} {L : List (Nat × Obj)} (h : OwnL w L) (hb : Below w.heap.size w w') : OwnL w' L :=
  ⟨h.1, fun x hx => by rw [hb.block _ (h.lt hx)]; exact h.2 x hx⟩
theorem sortedOk {L : FCfg} (hP : L.P = Tryz.prog) (hext : ∀ g, extOf g L.ext = 4 → g = 222) (hkeys : ∀ kf, memB kf L.keysFn = true → kf = 279 ∨ kf = 298) (hty : L.i64t = 3) : SortedOk L := by
  intro e o F w g args he hw hg hargs hrun
  have hg := hext g hg
  subst hg
  unfold sortedP
  split
  · rename_i kf k off
    split
    · rename_i hb
      rw [Bool.and_eq_true] at hb
      have hkf := hkeys kf hb.1
      have ho := Nat.eq_of_beq_eq_true hb.2
      subst ho
      split
      · rename_i b m ty hk
        split
        · rename_i bm es c hm
          split
          · rename_i l hl
            split
            · trivial
            rename_i hko
            have hcell : w.heap[e.H.ids k]? = some (.cells #[.map (some (e.H.ids m))] ty) := by
              rw [ids_of hk]
              exact own_obj hw hk (x := (b, .cells #[.map (some (e.H.ids m))] ty)) (by simp [SO.den, SV.dens, SV.den])
            have hB : e.H.ids k < w.heap.size := (Array.getElem?_eq_some_iff.1 hcell).1
            have hc : w.cell? ⟨e.H.ids k, 0, none⟩ = some (.map (some (e.H.ids m))) := by simp [World.cell?, hcell]
            have hmap := own_mapc hw hm
            have hd : (SV.dens e.H.ids [.fn (.func kf) [] [.ptr k 0]]).toArray = #[Value.func (.func kf) #[] #[.pointer (some ⟨e.H.ids k, 0, none⟩)]] := by
              simp [SV.dens, SV.den]
            have hrun' : ∀ w, (execOp e.a.eval o).run L.P w = (callFunc 222 #[Value.func (.func kf) #[] #[.pointer (some ⟨e.H.ids k, 0, none⟩)]]).run L.P w := by
              intro w; rw [hrun, hd]
            rw [hP] at hrun'
            have hent := enters_of Tryz.func222 (by kernel_rfl) rfl
            split
            · intro _
              have hcalls := sorted_calls hkf hB hc hmap hl hko (by simp)
              rw [hP]
              refine ⟨call_opok2 (Qw := _) hent hrun' hcalls (fun v w' hx => ?_), rfl⟩
              obtain ⟨hrow, hnil, hbel⟩ := hx
              refine ⟨_, rfl, ?_, own_below hw hbel, he.hok, Ext.refl _, by simp [SV.ok, Cap.v], hbel.os, hbel.output⟩
              rw [hnil.2 rfl]; simp [SV.den, Cap.v]
            · split
              · rename_i x r _ hle
                have hlen := Nat.le_of_ble_eq_true hle
                have hcalls := sorted_calls hkf hB hc hmap hl hko hlen
                rw [hP]
                refine ⟨fun _ => call_opok2 (Qw := _) hent hrun' hcalls (fun v w' hx => ?_), fun y => by simp⟩
                obtain ⟨⟨hrl, hrow⟩, hnil, hbel⟩ := hx
                rcases hrow with ⟨_, h0⟩ | ⟨gb, cap, cur, hv, hge, hgb, hnc, hcm, hsz, htake⟩
                · simp at h0
                · let so : SO := .row ((sortS (x :: r)).map (SV.lit .i64)) (cur.toList.drop (x :: r).length) 0 (cap - (x :: r).length) 1 (0, 0) 0 L.i64t
                  have hso : so.ok e.H.length e.H.ids := by
                    simp only [so, SO.ok, oks_iff, List.all_eq_true]
                    refine ⟨⟨fun y hy => ?_, fun y hy => ?_⟩, ?_, Nat.le_refl _⟩
                    · obtain ⟨z, _, rfl⟩ := List.mem_map.1 hy; simp [SV.ok]
                    · obtain ⟨z, _, rfl⟩ := List.mem_map.1 hy; rfl
                    · simp [hsz]
                  have hden : so.den e.H.ids gb = [(gb, .cells cur 3 (0, 0))] := by
                    simp only [so, SO.den, hty, dens_eq, List.map_map]
                    have h1 : (sortS (x :: r)).map (SV.den e.H.ids ∘ SV.lit .i64) = cur.toList.take ((x :: r).length * 1) := by
                      rw [htake]; rfl
                    rw [h1, Nat.mul_one, List.take_append_drop]
                  have hsame := SO.same (fun j hj => ids_append (gb, some so) hj) (Nat.le_succ e.H.length) gb hso
                  have hdd : Hp.den (e.H ++ [(gb, some so)]) = e.H.den ++ [(gb, .cells cur 3 (0, 0))] := by
                    rw [den_push he.hok, hsame.1, hden]
                  refine ⟨⟨e.H ++ [(gb, some so)], .sl e.H.length 1 0 (some ⟨gb, 0, none⟩) (x :: r).length ⟨(x :: r).length, some (cap - (x :: r).length)⟩⟩, ⟨⟨gb, cap - (x :: r).length, cur.toList.drop (x :: r).length, (0, 0)⟩, rfl⟩, ?_, ?_, ok_push he.hok _ _ hsame.2, ext_push _, ?_, hbel.os, hbel.output⟩
                  · rw [hv]
                    simp only [SV.den, Cap.v, Value.slice.injEq, true_and]
                    omega
                  · show OwnL w' (Hp.den (e.H ++ [(gb, some so)]) ++ F)
                    rw [hdd]
                    have h1 := own_below hw hbel
                    have h2 : OwnL w' ((gb, .cells cur 3 (0, 0)) :: (e.H.den ++ F)) := by
                      refine ⟨List.nodup_cons.2 ⟨fun hin => ?_, h1.1⟩, fun y hy => ?_⟩
                      · obtain ⟨y, hy, hyg⟩ := List.mem_map.1 hin
                        have := hw.lt hy
                        omega
                      · rcases List.mem_cons.1 hy with rfl | hy
                        · exact hgb
                        · exact h1.2 y hy
                    exact h2.perm (by simpa using (List.perm_middle (a := (gb, Obj.cells cur 3 (0, 0))) (l₁ := e.H.den) (l₂ := F)).symm)
                  · simp only [SV.ok, Cap.v, List.length_append, List.length_singleton]
                    refine ⟨by omega, .inr ⟨by omega, ?_⟩⟩
                    rw [ids_new]
              · trivial
          · trivial
        · trivial
      · trivial
    · trivial
  · trivial
end Go.Fx
