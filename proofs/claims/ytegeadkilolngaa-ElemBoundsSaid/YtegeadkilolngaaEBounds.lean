/- The statement ElemBounds: sine, cosine, Tanh, Erf and Sigmoid stay within their bounds; every answer that is no number is the one. No condition. -/
import Derived.Test.YtegeadkilolngaaMSoft
import Derived.Test.YtegeadkilolngaaElH
import Derived.Test.YtegeadkilolngaaElP
namespace Go.Proofs.Ytegeadkilolngaa.elemBounds
open Go.ChangeShapes Go.WideShapes Go.ChangeAt Go.RowKit
set_option linter.unusedVariables false

def BNrel (w : World) (iv cv : Value) (wr : World) : Prop := ∃ k n : Nat, iv = .int .i64 (k : Int) ∧ k ≤ 5 ∧ cv = .bool true ∧ wr = w.drewN n
theorem quiet_val {f : FuncId} {args : Array Value} {w : World} {v : Value} {a n : Nat} (h : Calls Try.prog f args (w.drewN (a + n)) fun e w' => e = .returned v ∧ w' = w.drewN (a + n)) :
    Calls Try.prog f args (w.drewN (a + n)) fun e w'' => e = .returned v ∧ ∃ m, w'' = w.drewN (a + m) :=
  h.mono fun _ _ ⟨he, hw⟩ => ⟨he, n, hw⟩
theorem rcanon_at (y : Nat) (w : World) (h : Hid (y < 4294967296)) (hc : Hid (canonP y = y)) : Calls Try.prog 23 #[.int .u32 (y : Int)] w fun e w' => e = .returned (.int .u32 (y : Int)) ∧ w' = w := by
  have h1 := rcanon_any y w h
  rw [hc.out] at h1
  exact h1
set_option maxRecDepth 100000 in
set_option maxHeartbeats 3200000 in
theorem walk (w : World) (a0 : Int) (w0 : (Lit.int .u32 a0).wf = true) (a1 : Int) (w1 : (Lit.int .u32 a1).wf = true) :
    Calls Try.prog 5 #[.int .u32 a0, .int .u32 a1] w fun e w' => e = .returned (.bool true) ∧ Below w.heap.size w w' := by
  obtain ⟨x, rfl, L_x⟩ := u32_nat w0
  obtain ⟨b, rfl, L_b⟩ := u32_nat w1
  clear w0 w1
  obtain ⟨vsin, h_sin⟩ : ∃ v, circP x 0 = v := ⟨_, rfl⟩
  have L_sin : Hid (vsin < 4294967296) := Lib.hid (by rw [← h_sin]; exact lt_circ 0 L_x.out)
  have R_sin := Lib.hid h_sin
  clear h_sin
  obtain ⟨vcos, h_cos⟩ : ∃ v, circP x 1 = v := ⟨_, rfl⟩
  have L_cos : Hid (vcos < 4294967296) := Lib.hid (by rw [← h_cos]; exact lt_circ 1 L_x.out)
  have R_cos := Lib.hid h_cos
  clear h_cos
  obtain ⟨vtanh, h_tanh⟩ : ∃ v, tanhP x = v := ⟨_, rfl⟩
  have L_tanh : Hid (vtanh < 4294967296) := Lib.hid (by rw [← h_tanh]; exact lt_tanh L_x.out)
  have R_tanh := Lib.hid h_tanh
  clear h_tanh
  obtain ⟨verf, h_erf⟩ : ∃ v, erfP x = v := ⟨_, rfl⟩
  have L_erf : Hid (verf < 4294967296) := Lib.hid (by rw [← h_erf]; exact lt_erf L_x.out)
  have R_erf := Lib.hid h_erf
  clear h_erf
  obtain ⟨vsigm, h_sigm⟩ : ∃ v, sigmP x = v := ⟨_, rfl⟩
  have L_sigm : Hid (vsigm < 4294967296) := Lib.hid (by rw [← h_sigm]; exact lt_sigm x)
  have R_sigm := Lib.hid h_sigm
  clear h_sigm
  obtain ⟨va, h_a⟩ : ∃ v, expP x = v := ⟨_, rfl⟩
  have O_a : Hid (okR va) := Lib.hid (by rw [← h_a]; exact exp_okR L_x.out)
  have R_a := Lib.hid h_a
  clear h_a
  obtain ⟨vb, h_b1⟩ : ∃ v, logP x = v := ⟨_, rfl⟩
  have O_b1 : Hid (okR vb) := Lib.hid (by rw [← h_b1]; exact log_okR L_x.out)
  have R_b1 := Lib.hid h_b1
  clear h_b1
  obtain ⟨vc, h_c⟩ : ∃ v, softpP x = v := ⟨_, rfl⟩
  have O_c : Hid (okR vc) := Lib.hid (by rw [← h_c]; exact softp_okR L_x.out)
  have R_c := Lib.hid h_c
  clear h_c
  obtain ⟨vd, h_d⟩ : ∃ v, powP x b = v := ⟨_, rfl⟩
  have O_d : Hid (okR vd) := Lib.hid (by rw [← h_d]; exact pow_okR L_b.out)
  have R_d := Lib.hid h_d
  clear h_d
  obtain ⟨ve, h_e⟩ : ∃ v, powP b x = v := ⟨_, rfl⟩
  have O_e : Hid (okR ve) := Lib.hid (by rw [← h_e]; exact pow_okR L_x.out)
  have R_e := Lib.hid h_e
  clear h_e
  have HL : Hid (∀ d ∈ [va, vb, vc, vd, ve], okR d) := Lib.hid (by intro d hd; simp only [List.mem_cons, List.not_mem_nil, or_false] at hd; rcases hd with rfl | rfl | rfl | rfl | rfl <;> first | exact O_a.out | exact O_b1.out | exact O_c.out | exact O_d.out | exact O_e.out)
  clear O_a O_b1 O_c O_d O_e
  go_enter Try.func5, Try.ntmps5
  go_wp2_with fail
  refine (eawake_any _).mono ?_
  rintro e W1 ⟨rfl, hB1⟩
  have hz1 := hB1.size
  go_wp2_with fail
  refine (sin_at L_x R_sin).mono ?_
  rintro e' W2 ⟨rfl, hC⟩
  have hB2 := hB1.trans (hC.mono hz1)
  have hz2 := hB2.size
  clear hC hB1 hz1
  go_wp2_with fail
  refine (between_at (lo := 3212836864) (hi := 1065353216) L_sin (Lib.hid (by decide)) (Lib.hid (by decide)) (Lib.hid (by rw [← R_sin.out]; exact circ_in 0 L_x.out))).mono ?_
  rintro e' w' ⟨rfl, hw⟩
  subst w'
  go_wp2_with fail
  refine (cos_at L_x R_cos).mono ?_
  rintro e' W3 ⟨rfl, hC⟩
  have hB3 := hB2.trans (hC.mono hz2)
  have hz3 := hB3.size
  clear hC hB2 hz2
  go_wp2_with fail
  refine (between_at (lo := 3212836864) (hi := 1065353216) L_cos (Lib.hid (by decide)) (Lib.hid (by decide)) (Lib.hid (by rw [← R_cos.out]; exact circ_in 1 L_x.out))).mono ?_
  rintro e' w' ⟨rfl, hw⟩
  subst w'
  go_wp2_with fail
  refine (tanh_at L_x R_tanh).mono ?_
  rintro e' W4 ⟨rfl, hC⟩
  have hB4 := hB3.trans (hC.mono hz3)
  have hz4 := hB4.size
  clear hC hB3 hz3
  go_wp2_with fail
  refine (between_at (lo := 3212836864) (hi := 1065353216) L_tanh (Lib.hid (by decide)) (Lib.hid (by decide)) (Lib.hid (by rw [← R_tanh.out]; exact tanh_in L_x.out))).mono ?_
  rintro e' w' ⟨rfl, hw⟩
  subst w'
  go_wp2_with fail
  refine (erf_at L_x R_erf).mono ?_
  rintro e' W5 ⟨rfl, hC⟩
  have hB5 := hB4.trans (hC.mono hz4)
  have hz5 := hB5.size
  clear hC hB4 hz4
  go_wp2_with fail
  refine (between_at (lo := 3212836864) (hi := 1065353216) L_erf (Lib.hid (by decide)) (Lib.hid (by decide)) (Lib.hid (by rw [← R_erf.out]; exact erf_in L_x.out))).mono ?_
  rintro e' w' ⟨rfl, hw⟩
  subst w'
  go_wp2_with fail
  refine (sigm_at L_x R_sigm).mono ?_
  rintro e' W6 ⟨rfl, hC⟩
  have hB6 := hB5.trans (hC.mono hz5)
  have hz6 := hB6.size
  clear hC hB5 hz5
  go_wp2_with fail
  refine (between_at (lo := 0) (hi := 1065353216) L_sigm (Lib.hid (by decide)) (Lib.hid (by decide)) (Lib.hid (by rw [← R_sigm.out]; exact sigm_in x))).mono ?_
  rintro e' w' ⟨rfl, hw⟩
  subst w'
  go_wp2_with fail
  refine (exp_at L_x R_a).mono ?_
  rintro e' W7 ⟨rfl, hC⟩
  have hB7 := hB6.trans (hC.mono hz6)
  have hz7 := hB7.size
  clear hC hB6 hz6
  go_wp2_with fail
  refine (log_at L_x R_b1).mono ?_
  rintro e' W8 ⟨rfl, hC⟩
  have hB8 := hB7.trans (hC.mono hz7)
  have hz8 := hB8.size
  clear hC hB7 hz7
  go_wp2_with fail
  refine (softp_at L_x R_c).mono ?_
  rintro e' W9 ⟨rfl, hC⟩
  have hB9 := hB8.trans (hC.mono hz8)
  have hz9 := hB9.size
  clear hC hB8 hz8
  go_wp2_with fail
  refine (pow_at L_x L_b R_d).mono ?_
  rintro e' W10 ⟨rfl, hC⟩
  have hB10 := hB9.trans (hC.mono hz9)
  have hz10 := hB10.size
  clear hC hB9 hz9
  go_wp2_with fail
  refine (pow_at L_b L_x R_e).mono ?_
  rintro e' W11 ⟨rfl, hC⟩
  have hB11 := hB10.trans (hC.mono hz10)
  have hz11 := hB11.size
  clear hC hB10 hz10
  go_wp2
  have hw := wr_new W11 [va, vb, vc, vd, ve]
  have hBe := hB11.alloc hz11 (.cells (nums [va, vb, vc, vd, ve]).toArray 22)
  go_loopw [9, 7] (fun iv cv wr => BNrel (W11.alloc (.cells (nums [va, vb, vc, vd, ve]).toArray 22)) iv cv wr) (fun iv _ _ => 5 - (intOf iv).toNat)
  case atStart => exact ⟨0, 0, rfl, by omega, rfl, rfl⟩
  case round =>
    obtain ⟨k, n, rfl, hk, rfl, rfl⟩ := hrel
    by_cases hlt : k < 5
    · obtain ⟨b', off', hbo, hb2, a1⟩ := hw.at_ (k := k) (by simpa using hlt)
      simp only [Option.some.injEq, Addr.mk.injEq, and_true] at hbo
      obtain ⟨rfl, rfl⟩ := hbo
      have HX := Lib.hid (HL.out ([va, vb, vc, vd, ve][k]'(by simpa using hlt)) (List.getElem_mem _))
      generalize [va, vb, vc, vd, ve][k]'(by simpa using hlt) = y at *
      have L_y : Hid (y < 4294967296) := Lib.hid HX.out.1
      have HC := Lib.hid (canon_ok HX.out)
      rw [Nat.zero_add] at a1
      have hlt' : (k : Int) < 5 := by omega
      go_wp2
      go_quiet ((go_at_call 23; exact quiet_val (rcanon_at y _ L_y HC)))
      go_wp2
      go_roundw
      case rel => exact ⟨k + 1, _, by go_num, hlt, rfl, rfl⟩
      case measure => simp [intOf]; omega
    · have hlt' : ¬ (k : Int) < 5 := by omega
      go_wp2
      go_ret
      exact ⟨rfl, ⟨hBe.os, hBe.tape, hBe.output, hBe.size, hBe.block⟩⟩

/-! ### THE ROW's STEP -/
set_option maxRecDepth 100000 in
theorem lifted (os : Os) (started : os.Started) (H : Type) (enc : TypeId × Value → H) :
    ReturnsInHanded {} Try.checked os 5 .any (Rows.elemBoundsSpec.pre6 enc Try.prog Try.f5 Rows.elemBoundsRow.domain false) (Rows.elemBoundsSpec.post enc Try.prog Try.f5 false true false false) := by
  refine returnsInHanded_of_change_sized (C := Try.checked) own started (by kernel_rfl) Try.func5
    (ChangeSpec.witness6 (enc := enc) (C := Try.checked) false ⟨#[], #[.int .u32 0, .int .u32 0], []⟩ 8 (by kernel_rfl) (by kernel_rfl) (by kernel_rfl) (by kernel_rfl)) ?_
  intro W base args ds gs before hval0 hW hcnd hsz0 _
  have hval : ∀ (j : Nat) t v, Try.f5.params[j]? = some t → args[j]? = some v → Value.okWide Try.prog W .any base t v := hval0
  have hW' := hW
  obtain ⟨p, q, hA0, hV, rfl, hfz, hnd⟩ := hW
  have hA : DataW.TrodAll enc Try.prog W 0 (fun _ => true) true Try.f5.params.toList args.toList ds p := hA0
  have hsz : (DataW.weightsEach Try.prog (Try.f5.params.toList ++ Rows.elemBoundsSpec.plain.varTypes Try.prog) (ds ++ gs)).all (· ≤ reachBytes) = true := hsz0
  rw [Try.params5] at hA hval hsz
  obtain ⟨v0, vs0, d0, ds0, p0, q0, hargs, rfl, rfl, h0, r0⟩ := trodAll_cons hA
  obtain ⟨v1, vs1, d1, ds1, p1, q1, rfl, rfl, rfl, h1, r1⟩ := trodAll_cons r0
  obtain ⟨rfl, rfl, rfl⟩ := trodAll_nil r1
  obtain rfl : args = #[v0, v1] := by cases args; simp_all
  obtain ⟨rfl, rfl⟩ := trodVars_none hV
  clear hA0 hval0 hsz0
  obtain ⟨a0, rfl, rfl, rfl, w0⟩ := open_int Try.underlying22 (hval 0 22 v0 rfl rfl) h0
  obtain ⟨a1, rfl, rfl, rfl, w1⟩ := open_int Try.underlying22 (hval 1 22 v1 rfl rfl) h1
  refine (walk W a0 w0 a1 w1).mono fun e W' ⟨he, bel⟩ => ?_
  subst he
  exact ⟨_, rfl, _, _, _, [], _, [], hW', trodAll_mk1 (shut_bool Try.underlying4 _), (trodAll_cons_mk (shut_int Try.underlying22 w0) (trodAll_cons_mk (shut_int Try.underlying22 w1) trodAll_mk0)), rfl, bel.frame _, fun h => by cases h⟩

theorem over : Rows.elemBoundsRow.holds Try.pinned (OpenSpec.ofChange Rows.elemBoundsSpec) :=
  OpenClaim.holds_of_wide 5 Try.f5 rfl rfl rfl rfl rfl rfl rfl ⟨rfl, rfl, rfl, rfl, rfl⟩ rfl rfl rfl rfl rfl (by kernel_rfl) Try.func5 (by kernel_rfl)
    (of_decide_eq_true (by kernel_rfl)) (by unfold Func.isWrapper; first | (rw [if_pos (by decide +kernel)]; kernel_rfl) | (rw [if_neg (by decide +kernel)]; exact ⟨rfl, rfl⟩))
    (fun os started H enc _ => lifted os started H enc)

theorem proved : Rows.ElemBoundsSaid := over
#print axioms proved
end Go.Proofs.Ytegeadkilolngaa.elemBounds
