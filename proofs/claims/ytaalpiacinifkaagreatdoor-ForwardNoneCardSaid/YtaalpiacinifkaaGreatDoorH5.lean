import Derived.Test.YtaalpiacinifkaaGreatDoorH4
/- Part of the proof that ForwardNone of law 21 returns true whatever it is called with. No condition. -/
set_option linter.all false
/- ForwardNone of law 21 returns true, whatever it is called with. No condition. -/
namespace Go.Proofs.YtaalpiacinifkaaGreatDoor.fwNone
open Go.ChangeShapes Go.WideShapes Go.ChangeAt Go.RowKit Go.Sx Go.Fx

theorem own : ownKnob Tryz.prog.godebug = none := by kernel_rfl
theorem cells62 : Tryz.prog.cellsOf 62 = 2 := by kernel_rfl
theorem cells4 : Tryz.prog.cellsOf 4 = 1 := by kernel_rfl
theorem cells9 : Tryz.prog.cellsOf 9 = 1 := by kernel_rfl
section
variable {H : Type} {enc : TypeId × Value → H} {w : World} {base : Nat} {sp : Nat → Bool} {held : Bool}
set_option maxRecDepth 100000 in
theorem open_val {r : Reach} {b0 : Nat} {v : Value} {d : DataW H} {ps : List MemPlace} (hval : Value.okWide Tryz.prog w r b0 62 v) (hd : DataW.Trod enc Tryz.prog w base sp held 62 v d ps) :
    ∃ (b : Bool) (s : ByteArray), v = .agg #[.bool b, .string s] ∧ d = .agg [.lit (.bool b), .lit (.string s.data.toList)] ∧ ps = [] ∧ s.size ≤ maxLen := by
  obtain ⟨cs, rfl, hcs⟩ := okWide_struct Tryz.underlying62 hval
  obtain ⟨fuel, hf⟩ := hd
  have hf : DataW.trod enc Tryz.prog w base sp held fuel 62 cs.toList = some (d, ps) := hf
  obtain ⟨y0, y1, n, hx, hl, h0, h1⟩ := trod_struct2 Tryz.underlying62 hf
  rw [cells62] at hl
  simp only [cells4, cells9, List.drop_zero] at h0 h1
  obtain ⟨b, hb, rfl⟩ := DataW.trod_bool Tryz.underlying4 h0
  obtain ⟨s, hs, rfl, hsz⟩ := DataW.trod_string Tryz.underlying9 h1
  have hcl : cs.toList = [.bool b, .string s] := by
    match hm : cs.toList, hl with
    | [x, y], _ =>
      rw [hm] at hb hs
      simp at hb hs
      rw [hb, hs]
  have hca : cs = #[.bool b, .string s] := Array.ext' hcl
  simp only [Prod.mk.injEq, List.append_nil] at hx
  exact ⟨b, s, by rw [hca], hx.1, hx.2, hsz⟩
theorem shut_val (b : Bool) {s : ByteArray} (hs : s.size ≤ maxLen) : DataW.Trod enc Tryz.prog w base sp held 62 (.agg #[.bool b, .string s]) (.agg [.lit (.bool b), .lit (.string s.data.toList)]) [] := by
  refine ⟨2, ?_⟩
  have := trod_struct2_mk (enc := enc) (w := w) (base := base) (spare := sp) (held := held) (n := 1) (cs := [.bool b, .string s]) (y0 := (.lit (.bool b), [])) (y1 := (.lit (.string s.data.toList), [])) Tryz.underlying62 (by rw [cells62]; rfl)
    (by simp [cells4, DataW.trod, Tryz.underlying4]) (by simp [cells9, DataW.trod, Tryz.underlying9, hs])
  exact this
end

set_option maxRecDepth 100000 in
/-- What the walk gives, for every argument and every world that holds the table. -/
theorem contract (H : Type) (enc : TypeId × Value → H) (W : World) (base : Nat) (args : Array Value) (ds gs : List (DataW H)) (before : List MemPlace)
    (hval : ∀ (j : Nat) t v, Tryz.f4.params[j]? = some t → args[j]? = some v → Value.okWide Tryz.prog W .any base t v)
    (hW : DataW.Whole enc Tryz.prog Tryz.f4.params.toList Rows.forwardNoneSpec.vars false W args.toList ds gs before) (hL : laidMetH Tryz.prog Rows.forwardNoneRow.laid W) (hS : W.ShapedOpen Tryz.prog) :
    Calls Tryz.prog 4 args W fun e W' => ∃ v, e = .returned v ∧ Rows.forwardNoneSpec.post enc Tryz.prog Tryz.f4 false true false false W args v W' := by
  have hW' := hW
  obtain ⟨p, q, hA0, hV, rfl, hfz, hnd⟩ := hW
  have hA : DataW.TrodAll enc Tryz.prog W 0 (fun _ => true) true Tryz.f4.params.toList args.toList ds p := hA0
  rw [Tryz.params4] at hA hval
  obtain ⟨v0, vs0, d0, ds0, p0, q0, hargs, rfl, rfl, h0, r0⟩ := trodAll_cons hA
  obtain ⟨v1, vs1, d1, ds1, p1, q1, rfl, rfl, rfl, h1, r1⟩ := trodAll_cons r0
  obtain ⟨v2, vs2, d2, ds2, p2, q2, rfl, rfl, rfl, h2, r2⟩ := trodAll_cons r1
  obtain ⟨rfl, rfl, rfl⟩ := trodAll_nil r2
  obtain rfl : args = #[v0, v1, v2] := by cases args; simp_all
  obtain ⟨rfl, rfl⟩ := trodVars_none hV
  obtain ⟨n, rfl, rfl, rfl, hn⟩ := open_int Tryz.underlying3 (hval 0 3 v0 rfl rfl) h0
  obtain ⟨s, rfl, rfl, rfl, hs⟩ := ChangeMaps.open_string Tryz.underlying9 (hval 1 9 v1 rfl rfl) h1
  obtain ⟨b, s2, rfl, rfl, rfl, hs2⟩ := open_val (hval 2 62 v2 rfl rfl) h2
  clear hA0
  simp only [List.append_nil] at hW'
  have hb0 := block0 hS hL
  have fo := forward_ok n s.data.toList b s2.data.toList
  have e1 : (⟨s.data.toList.toArray⟩ : ByteArray) = s := by cases s; simp
  have e2 : (⟨s2.data.toList.toArray⟩ : ByteArray) = s2 := by cases s2; simp
  rw [e1, e2] at fo
  have hown : OwnL W (needL L3 true ++ restOf W) := own_all hb0
  refine (fo.calls hown).mono fun e W' hx => ?_
  obtain ⟨v, M, rfl, ⟨⟨v', hv', hvv⟩, A, B, rfl⟩, hw', hos, hout⟩ := hx
  have hv'' : v' = SV.blit true := by simpa [scalV, mkBool] using hv'.symm
  subst hv''
  have hvt : v = .bool true := by rw [hvv]; rfl
  subst hvt
  have hkept := kept_all (A := A) (B := B) hb0 hw'
  refine ⟨_, rfl, post_same2 (pa := []) (pv := []) hW' (fun _ _ _ => ?_) (fun _ _ => ?_) (fun _ _ => rfl) rfl (kept_of_eq hos hout hkept _) (fun _ _ hp => by simp at hp) (ok_one (by kernel_rfl) rfl (okWide_bool_mk Tryz.underlying4 _))⟩
  · exact trodAll_cons_mk (shut_bool Tryz.underlying4 _) trodAll_mk0
  · exact trodAll_cons_mk (shut_int Tryz.underlying3 hn) (trodAll_cons_mk (ChangeMaps.shut_string Tryz.underlying9 hs) (trodAll_cons_mk (shut_val b hs2) trodAll_mk0))
end Go.Proofs.YtaalpiacinifkaaGreatDoor.fwNone
