/- The statement OnnxAgain: what is decoded may be encoded, and is decoded as the same again. No condition. -/
import Derived.Test.YtlhpmlknmgocoaaOnAw
import Derived.Test.YtlhpmlknmgocoaaOnOq
namespace Go.Proofs.Ytlhpmlknmgocoaa.onnxAgain
set_option linter.unusedSimpArgs false
set_option linter.unusedVariables false
open Go.ChangeShapes Go.WideShapes Go.ChangeAt Go.RowKit
set_option linter.unusedVariables false

set_option maxRecDepth 100000 in
set_option maxHeartbeats 6400000 in
theorem walk (w : World) (v : Value) (b : List UInt8) (hv : Held w (fun _ => True) (datB b) v) :
    Calls Try.prog 5 #[v] w fun e w' => e = .returned (.bool true) ∧ Below w.heap.size w w' := by
  obtain ⟨A, c, rfl, -⟩ := Held.form1 hv
  have HV := Lib.hid hv
  clear hv
  go_enter Try.func5, Try.ntmps5
  go_wp2_with fail
  refine Calls.mono (oawake_any w) ?_
  rintro e W1 ⟨rfl, hb1⟩
  have HB1 := Lib.hid hb1
  have HC1 := Lib.hid (decode_any (HV.out.past hb1))
  obtain ⟨⟨m, er⟩, hr⟩ : ∃ r, decM b = r := ⟨_, rfl⟩
  rw [hr] at HC1
  have HR := Lib.hid hr
  clear hb1 hr
  go_wp2_with fail
  refine Calls.mono HC1.out ?_
  rintro e W2 ⟨u2, rfl, hm2, hb2⟩
  obtain ⟨M1, m1, M2, m2, M3, m3, M4, m4, rfl, hl2⟩ := hm2.hl
  have HL2 := Lib.hid hl2
  have HB2 := Lib.hid (HB1.out.trans (hb2.mono HB1.out.size))
  have HNB := fun cz => Lib.hid (Blk.new W2 32 cz)
  have HAL := fun cz => Lib.hid ((Below.refl W2.heap.size W2).alloc (Nat.le_refl _) (.cells cz 32))
  have HLA := fun cz => Lib.hid (hl2.keep (S' := Inb W1.heap.size W2.heap.size) (fun h => h.alloc (.cells cz 32)))
  clear hm2 hl2 hb2 HC1
  dsimp only
  by_cases he : er = 0
  case neg =>
    have h9 := dec_err (b := b) (by rw [HR.out]; exact he)
    rw [HR.out] at h9
    dsimp only at h9
    obtain ⟨rfl, h678⟩ := h9
    have hz := (MoV.zero W2 (fun _ => True)).hl
    have HSM := fun cz => Lib.hid (same_model (HLA cz).out (vs := [.int .i64 0, .string ⟨#[]⟩, .slice none 0 0, .slice none 0 0, .slice none 0 0, .slice none 0 0]) (S' := fun _ => True) (.cons (.leaf _) (.cons (.leaf _) (.cons (Held.nil _ _ _ _ _ (by unfold maxLen; omega)) (.cons (Held.nil _ _ _ _ _ (by unfold maxLen; omega)) (.cons (Held.nil _ _ _ _ _ (by unfold maxLen; omega)) (.cons (Held.nil _ _ _ _ _ (by unfold maxLen; omega)) .nil)))))))
    have e0 : (er == 0) = false := by simpa using he
    clear hz he
    rcases h678 with rfl | rfl | rfl
    all_goals
      go_wp2_with fail
      refine Calls.mono (HSM _).out ?_
      rintro e W3 ⟨rfl, hb3⟩
      have HF := Lib.hid (HB2.out.trans (((HAL _).out.trans (hb3.mono (HAL _).out.size)).mono HB2.out.size))
      clear hb3
      go_wp2
      go_ret
      exact ⟨rfl, HF.out⟩
  subst he
  obtain ⟨hck, hop⟩ := dec_ok HR.out
  have HCK := Lib.hid hck
  have hod : m.opset.toInt = 17 := by rw [hop]; rfl
  rw [hod] at HL2 HLA ⊢
  have HCC := fun cz => Lib.hid (check_any (HLA cz).out)
  rw [hck] at HCC
  clear hod hck hop
  go_wp2_with fail
  refine Calls.mono (HCC _).out ?_
  rintro e W3 ⟨rfl, hb3⟩
  have hblk := (HNB _).out.below hb3 (HNB _).out.lt
  have HK3 := Lib.hid hblk
  have HB3 := Lib.hid ((HAL _).out.trans (hb3.mono (HAL _).out.size))
  obtain ⟨p0, p1, p2, p3, p4, p5, -, -, -, -, -, -, lp⟩ := blkc6 hblk
  clear hblk hb3 HCC HLA
  have HC4 := Lib.hid (encode_any (HL2.out.keep (fun h => h.past HB3.out)))
  obtain ⟨⟨cb, f⟩, hr⟩ : ∃ r, encM m = r := ⟨_, rfl⟩
  rw [hr] at HC4
  have HR2 := Lib.hid hr
  clear hr
  go_wp2_with fail
  refine Calls.mono HC4.out ?_
  rintro e W4 ⟨u4, rfl, hd4, hb4⟩
  obtain ⟨A5, c5, rfl, -⟩ := Held.form1 hd4
  have HD4 := Lib.hid hd4
  have HK4 := Lib.hid (HK3.out.below hb4 HK3.out.lt)
  have HB4 := Lib.hid (HB3.out.trans (hb4.mono HB3.out.size))
  clear hd4 hb4 HC4 p0 p1 p2 p3 p4 p5 lp
  dsimp only
  by_cases hf : f = 0
  case neg =>
    have h9 := enc_err (m := m) (by rw [HR2.out]; exact hf)
    rw [HR2.out, HCK.out] at h9
    dsimp only at h9
    have h8 : f = 8 := by
      rcases h9.2 with h | h
      · exact absurd h hf
      · exact h.2
    subst h8
    have HF := Lib.hid (HB2.out.trans (HB4.out.mono HB2.out.size))
    clear h9 hf
    go_wp2
    go_ret
    exact ⟨rfl, HF.out⟩
  subst hf
  have HC5 := Lib.hid (decode_any HD4.out)
  rw [enc_back HR2.out] at HC5
  go_wp2_with fail
  refine Calls.mono HC5.out ?_
  rintro e W5 ⟨u5, rfl, hm5, hb5⟩
  obtain ⟨N1, n1, N2, n2, N3, n3, N4, n4, rfl, hl5⟩ := hm5.hl
  have hblk := HK4.out.below hb5 HK4.out.lt
  have HB5 := Lib.hid (HB4.out.trans (hb5.mono HB4.out.size))
  obtain ⟨p0, p1, p2, p3, p4, p5, -, -, -, -, -, -, lp⟩ := blkc6 hblk
  have HSM := fun cz => Lib.hid (same_model (w := W5.alloc (.cells cz 32)) (HL2.out.keep (fun h => (h.past HB5.out).alloc _)) (hl5.keep (fun h => h.alloc _)))
  have HA5 := fun cz => Lib.hid ((HB5.out).alloc HB5.out.size (.cells cz 32))
  clear hblk hl5 hm5 hb5 HC5
  go_wp2_with fail
  refine Calls.mono (HSM _).out ?_
  rintro e W6 ⟨rfl, hb6⟩
  have HF := Lib.hid (HB2.out.trans (((HA5 _).out.trans (hb6.mono (HA5 _).out.size)).mono HB2.out.size))
  clear hb6
  go_wp2
  go_ret
  exact ⟨rfl, HF.out⟩
/-! ### THE ROW's STEP -/
set_option maxRecDepth 100000 in
theorem lifted (os : Os) (started : os.Started) (H : Type) (enc : TypeId × Value → H) :
    ReturnsInHanded {} Try.checked os 5 .any (Rows.onnxAgainSpec.pre6 enc Try.prog Try.f5 Rows.onnxAgainRow.domain false) (Rows.onnxAgainSpec.post enc Try.prog Try.f5 false true false false) := by
  refine returnsInHanded_of_change_sized (C := Try.checked) own started (by kernel_rfl) Try.func5
    (ChangeSpec.witness6 (enc := enc) (C := Try.checked) false ⟨#[], #[.slice none 0 0], []⟩ 8 (by kernel_rfl) (by kernel_rfl) (by kernel_rfl) (by kernel_rfl)) ?_
  intro W base args ds gs before hval0 hW hcnd hsz0 _
  have hval : ∀ (j : Nat) t v, Try.f5.params[j]? = some t → args[j]? = some v → Value.okWide Try.prog W .any base t v := hval0
  have hW' := hW
  obtain ⟨p, q, hA0, hV, rfl, hfz, hnd⟩ := hW
  have hA : DataW.TrodAll enc Try.prog W 0 (fun _ => true) true Try.f5.params.toList args.toList ds p := hA0
  have hsz : (DataW.weightsEach Try.prog (Try.f5.params.toList ++ Rows.onnxAgainSpec.plain.varTypes Try.prog) (ds ++ gs)).all (· ≤ reachBytes) = true := hsz0
  rw [Try.params5] at hA hval hsz
  obtain ⟨v0, vs0, d0, ds0, p0, q0, hargs, rfl, rfl, h0, r0⟩ := trodAll_cons hA
  obtain ⟨rfl, rfl, rfl⟩ := trodAll_nil r0
  obtain rfl : args = #[v0] := by cases args; simp_all
  obtain ⟨rfl, rfl⟩ := trodVars_none hV
  clear hA0 hval0 hsz0
  have k0 := h0
  have lt0 : ∀ x ∈ p0, x.block < W.heap.size := by obtain ⟨m, hm⟩ := k0; exact DataW.trod_lt m _ _ _ hm
  have wt0 : ∀ n ∈ d0.weights Try.prog 33, n ≤ reachBytes := fun n hn => by simpa using List.all_eq_true.1 hsz _ (DataW.weights_mem_each (j := 0) (t := 33) rfl rfl n hn)
  obtain ⟨l0, hh0⟩ := open_bs (hval 0 33 v0 rfl rfl) h0 wt0 (fun _ => rfl)
  refine (walk W v0 l0 hh0).mono fun e W' ⟨he, bel⟩ => ?_
  subst he
  exact ⟨_, rfl, _, _, _, [], _, [], hW', trodAll_mk1 (shut_bool Try.underlying4 _), (trodAll_cons_mk (Below.trod laidOut (by kernel_rfl) (of_decide_eq_true (by kernel_rfl)) k0 bel lt0) trodAll_mk0), rfl, bel.frame _, fun h => by cases h⟩

theorem over : Rows.onnxAgainRow.holds Try.pinned (OpenSpec.ofChange Rows.onnxAgainSpec) :=
  OpenClaim.holds_of_wide 5 Try.f5 rfl rfl rfl rfl rfl rfl rfl ⟨rfl, rfl, rfl, rfl, rfl⟩ rfl rfl rfl rfl rfl (by kernel_rfl) Try.func5 (by kernel_rfl)
    (of_decide_eq_true (by kernel_rfl)) (by unfold Func.isWrapper; first | (rw [if_pos (by decide +kernel)]; kernel_rfl) | (rw [if_neg (by decide +kernel)]; exact ⟨rfl, rfl⟩))
    (fun os started H enc _ => lifted os started H enc)

theorem proved : Rows.OnnxAgainSaid := over
#print axioms proved
end Go.Proofs.Ytlhpmlknmgocoaa.onnxAgain
