/- The statement OnnxBack: a model that is encoded is decoded as the same model. No condition. -/
import Derived.Test.YtlhpmlknmgocoaaOnAw
import Derived.Test.YtlhpmlknmgocoaaOnRc
import Derived.Test.YtlhpmlknmgocoaaOnOp
namespace Go.Proofs.Ytlhpmlknmgocoaa.onnxBack
set_option linter.unusedSimpArgs false
set_option linter.unusedVariables false
open Go.ChangeShapes Go.WideShapes Go.ChangeAt Go.RowKit
set_option linter.unusedVariables false

set_option maxRecDepth 100000 in
set_option maxHeartbeats 6400000 in
theorem walk (w : World) (m : Mo) (us : List Value) (hl : HL w (fun _ => True) (datM m) us) :
    Calls Try.prog 4 #[.agg us.toArray] w fun e w' => e = .returned (.bool true) ∧ Below w.heap.size w w' := by
  obtain ⟨A1, c1, A2, c2, A3, c3, A4, c4, rfl, -⟩ := hl.mod
  obtain ⟨cs, hcs⟩ : ∃ cs : Array Value, #[.int .i64 m.opset.toInt, .string ⟨m.name.toArray⟩, .slice A1 m.nodes.length c1, .slice A2 m.inits.length c2, .slice A3 m.inputs.length c3, .slice A4 m.outputs.length c4] = cs := ⟨_, rfl⟩
  have HL0 := Lib.hid hl
  have HB0 := Lib.hid (Blk.new w 32 cs)
  have HBL0 := Lib.hid ((Below.refl w.heap.size w).alloc (Nat.le_refl _) (.cells cs 32))
  have HAW := Lib.hid (oawake_any (w.alloc (.cells cs 32)))
  have HCS := Lib.hid hcs
  clear hcs hl
  go_enter Try.func4, Try.ntmps4
  go_wp2_with fail
  rw [HCS.out]
  refine Calls.mono HAW.out ?_
  rintro e W1 ⟨rfl, hb⟩
  have HB1 := Lib.hid (HBL0.out.trans (hb.mono HBL0.out.size))
  have hblk := HB0.out.below hb HB0.out.lt
  have HK1 := Lib.hid hblk
  rw [← HCS.out] at hblk
  obtain ⟨p0, p1, p2, p3, p4, p5, -, -, -, -, -, -, lp⟩ := blkc6 hblk
  have HC1 := Lib.hid (encode_any (HL0.out.keep (fun h => h.past HB1.out)))
  obtain ⟨⟨b, er⟩, hr⟩ : ∃ r, encM m = r := ⟨_, rfl⟩
  rw [hr] at HC1
  have HR := Lib.hid hr
  clear hb hblk HAW HB0 HBL0 hr
  go_wp2_with fail
  refine Calls.mono HC1.out ?_
  rintro e W2 ⟨u, rfl, hd, hb2⟩
  obtain ⟨A5, c5, rfl, -⟩ := Held.form1 hd
  have HD := Lib.hid hd
  have HB2 := Lib.hid (HB1.out.trans (hb2.mono HB1.out.size))
  have hblk := HK1.out.below hb2 HK1.out.lt
  have HK2 := Lib.hid hblk
  rw [← HCS.out] at hblk
  clear p0 p1 p2 p3 p4 p5 lp HC1 hd hb2
  obtain ⟨p0, p1, p2, p3, p4, p5, -, -, -, -, -, -, lp⟩ := blkc6 hblk
  have HC2 := Lib.hid (check_any (HL0.out.keep (fun h => h.past HB2.out)))
  clear hblk
  dsimp only
  go_wp2_with fail
  refine Calls.mono HC2.out ?_
  rintro e W3 ⟨rfl, hb3⟩
  have HB3 := Lib.hid (HB2.out.trans (hb3.mono HB2.out.size))
  have HD3 := Lib.hid (HD.out.past hb3)
  have HK3 := Lib.hid (HK2.out.below hb3 HK2.out.lt)
  clear p0 p1 p2 p3 p4 p5 lp HC2 hb3
  by_cases he : er = 0
  · subst he
    have HEN := Lib.hid (enc_back HR.out)
    have HCH : Hid (chk false m = 0) := Lib.hid (enc_ok HR.out).chk
    rw [HCH.out]
    have HC4 := Lib.hid (decode_any HD3.out)
    rw [HEN.out] at HC4
    go_wp2_with fail
    refine Calls.mono HC4.out ?_
    rintro e W4 ⟨u4, rfl, hm4, hb4⟩
    obtain ⟨N1, n1, N2, n2, N3, n3, N4, n4, rfl, hl4⟩ := hm4.hl
    have hblk := HK3.out.below hb4 HK3.out.lt
    have HB4 := Lib.hid (HB3.out.trans (hb4.mono HB3.out.size))
    have hsm := fun cz => same_model (w := W4.alloc (.cells cz 32)) (HL0.out.keep (fun h => (h.past HB4.out).alloc _)) (hl4.keep (fun h => h.alloc _))
    have HSM := fun cz => Lib.hid (hsm cz)
    have HB5 := fun cz => Lib.hid (HB4.out.alloc HB4.out.size (.cells cz 32))
    have HA5 := fun cz => Lib.hid (show W4.heap.size ≤ (W4.alloc (.cells cz 32)).heap.size by simp)
    rw [← HCS.out] at hblk
    obtain ⟨p0, p1, p2, p3, p4, p5, -, -, -, -, -, -, lp⟩ := blkc6 hblk
    clear hblk hl4 hm4 hb4 HC4 hsm
    go_wp2_with fail
    refine Calls.mono (HSM _).out ?_
    rintro e W5 ⟨rfl, hb5⟩
    have HF := Lib.hid ((HB5 _).out.trans (hb5.mono (Nat.le_trans HB4.out.size (HA5 _).out)))
    clear hb5
    go_wp2
    go_ret
    exact ⟨rfl, HF.out⟩
  · have HE := enc_err (m := m) (by rw [HR.out]; exact he)
    rw [HR.out] at HE
    dsimp only at HE
    obtain ⟨hb0, hways⟩ := HE
    subst hb0
    have e1 : (er == 0) = false := by simpa using he
    rcases hways with h | ⟨h, h8⟩
    · rw [← h]
      go_wp2
      go_ret
      exact ⟨rfl, HB3.out⟩
    · subst h8
      rw [h]
      go_wp2
      go_ret
      exact ⟨rfl, HB3.out⟩
/-! ### THE ROW's STEP -/
set_option maxRecDepth 100000 in
theorem lifted (os : Os) (started : os.Started) (H : Type) (enc : TypeId × Value → H) :
    ReturnsInHanded {} Try.checked os 4 .any (Rows.onnxBackSpec.pre6 enc Try.prog Try.f4 Rows.onnxBackRow.domain false) (Rows.onnxBackSpec.post enc Try.prog Try.f4 false true false false) := by
  refine returnsInHanded_of_change_sized (C := Try.checked) own started (by kernel_rfl) Try.func4
    (ChangeSpec.witness6 (enc := enc) (C := Try.checked) false ⟨#[], #[.agg #[.int .i64 0, .string ⟨#[]⟩, .slice none 0 0, .slice none 0 0, .slice none 0 0, .slice none 0 0]], []⟩ 8 (by kernel_rfl) (by kernel_rfl) (by kernel_rfl) (by kernel_rfl)) ?_
  intro W base args ds gs before hval0 hW hcnd hsz0 _
  have hval : ∀ (j : Nat) t v, Try.f4.params[j]? = some t → args[j]? = some v → Value.okWide Try.prog W .any base t v := hval0
  have hW' := hW
  obtain ⟨p, q, hA0, hV, rfl, hfz, hnd⟩ := hW
  have hA : DataW.TrodAll enc Try.prog W 0 (fun _ => true) true Try.f4.params.toList args.toList ds p := hA0
  have hsz : (DataW.weightsEach Try.prog (Try.f4.params.toList ++ Rows.onnxBackSpec.plain.varTypes Try.prog) (ds ++ gs)).all (· ≤ reachBytes) = true := hsz0
  rw [Try.params4] at hA hval hsz
  obtain ⟨v0, vs0, d0, ds0, p0, q0, hargs, rfl, rfl, h0, r0⟩ := trodAll_cons hA
  obtain ⟨rfl, rfl, rfl⟩ := trodAll_nil r0
  obtain rfl : args = #[v0] := by cases args; simp_all
  obtain ⟨rfl, rfl⟩ := trodVars_none hV
  clear hA0 hval0 hsz0
  have k0 := h0
  have lt0 : ∀ x ∈ p0, x.block < W.heap.size := by obtain ⟨m, hm⟩ := k0; exact DataW.trod_lt m _ _ _ hm
  have wt0 : ∀ n ∈ d0.weights Try.prog 32, n ≤ reachBytes := fun n hn => by simpa using List.all_eq_true.1 hsz _ (DataW.weights_mem_each (j := 0) (t := 32) rfl rfl n hn)
  obtain ⟨m0, us0, rfl, hh0⟩ := open_model (hval 0 32 v0 rfl rfl) h0 wt0 (fun _ => rfl)
  refine (walk W m0 us0 hh0).mono fun e W' ⟨he, bel⟩ => ?_
  subst he
  exact ⟨_, rfl, _, _, _, [], _, [], hW', trodAll_mk1 (shut_bool Try.underlying4 _), (trodAll_cons_mk (Below.trod laidOut (by kernel_rfl) (of_decide_eq_true (by kernel_rfl)) k0 bel lt0) trodAll_mk0), rfl, bel.frame _, fun h => by cases h⟩

theorem over : Rows.onnxBackRow.holds Try.pinned (OpenSpec.ofChange Rows.onnxBackSpec) :=
  OpenClaim.holds_of_wide 4 Try.f4 rfl rfl rfl rfl rfl rfl rfl ⟨rfl, rfl, rfl, rfl, rfl⟩ rfl rfl rfl rfl rfl (by kernel_rfl) Try.func4 (by kernel_rfl)
    (of_decide_eq_true (by kernel_rfl)) (by unfold Func.isWrapper; first | (rw [if_pos (by decide +kernel)]; kernel_rfl) | (rw [if_neg (by decide +kernel)]; exact ⟨rfl, rfl⟩))
    (fun os started H enc _ => lifted os started H enc)

theorem proved : Rows.OnnxBackSaid := over
#print axioms proved
end Go.Proofs.Ytlhpmlknmgocoaa.onnxBack
