/- The statement SoftHolds: down, nearest and up stand as they must, of sums, products and quotients. No condition. -/
import Derived.Test.YtkdlkjoeoahfpaaSoftL
import Derived.Test.YtkdlkjoeoahfpaaHoldK
namespace Go.Proofs.Ytkdlkjoeoahfpaa.softHolds
open Go.ChangeShapes Go.WideShapes Go.ChangeAt Go.RowKit
set_option linter.unusedVariables false

theorem add0_at {a b r : Nat} {w : World} (h : Hid (a < 4294967296)) (h' : Hid (b < 4294967296)) (hr : Hid (addP 0 a b = r)) : Calls Try.prog 27 #[.int .u32 (a : Int), .int .u32 (b : Int)] w fun e w' => e = .returned (.int .u32 (r : Int)) ∧ Below w.heap.size w w' := by
  have := add0_any a b w h h'
  rw [hr.out] at this
  exact this
theorem mul0_at {a b r : Nat} {w : World} (h : Hid (a < 4294967296)) (h' : Hid (b < 4294967296)) (hr : Hid (mulP 0 a b = r)) : Calls Try.prog 24 #[.int .u32 (a : Int), .int .u32 (b : Int)] w fun e w' => e = .returned (.int .u32 (r : Int)) ∧ Below w.heap.size w w' := by
  have := mul0_any a b w h h'
  rw [hr.out] at this
  exact this
theorem div0_at {a b r : Nat} {w : World} (h : Hid (a < 4294967296)) (h' : Hid (b < 4294967296)) (hr : Hid (divP 0 a b = r)) : Calls Try.prog 18 #[.int .u32 (a : Int), .int .u32 (b : Int)] w fun e w' => e = .returned (.int .u32 (r : Int)) ∧ Below w.heap.size w w' := by
  have := div0_any a b w h h'
  rw [hr.out] at this
  exact this
set_option maxRecDepth 100000 in
set_option maxHeartbeats 1600000 in
theorem walk (w : World) (a0 : Int) (w0 : (Lit.int .u32 a0).wf = true) (a1 : Int) (w1 : (Lit.int .u32 a1).wf = true) :
    Calls Try.prog 9 #[.int .u32 a0, .int .u32 a1] w fun e w' => e = .returned (.bool true) ∧ Below w.heap.size w w' := by
  obtain ⟨a, rfl, HA⟩ := u32_nat w0
  obtain ⟨b, rfl, HB⟩ := u32_nat w1
  clear w0 w1
  obtain ⟨a2, ha2⟩ : ∃ s, addP 2 a b = s := ⟨_, rfl⟩
  have LA2 : Hid (a2 < 4294967296) := Lib.hid (by rw [← ha2]; exact (okR.add 2 HA.out HB.out).1)
  have HA2 := Lib.hid ha2
  obtain ⟨a0, ha0⟩ : ∃ s, addP 0 a b = s := ⟨_, rfl⟩
  have LA0 : Hid (a0 < 4294967296) := Lib.hid (by rw [← ha0]; exact (okR.add 0 HA.out HB.out).1)
  have HA0 := Lib.hid ha0
  obtain ⟨a1, ha1⟩ : ∃ s, addP 1 a b = s := ⟨_, rfl⟩
  have LA1 : Hid (a1 < 4294967296) := Lib.hid (by rw [← ha1]; exact (okR.add 1 HA.out HB.out).1)
  have HA1 := Lib.hid ha1
  have TA : Hid (HH a2 a0 a1) := Lib.hid (by rw [← ha2, ← ha0, ← ha1]; exact HH.add HA.out HB.out)
  clear ha2 ha0 ha1
  obtain ⟨m2, hm2⟩ : ∃ s, mulP 2 a b = s := ⟨_, rfl⟩
  have LM2 : Hid (m2 < 4294967296) := Lib.hid (by rw [← hm2]; exact (okR.mul 2 a b).1)
  have HM2 := Lib.hid hm2
  obtain ⟨m0, hm0⟩ : ∃ s, mulP 0 a b = s := ⟨_, rfl⟩
  have LM0 : Hid (m0 < 4294967296) := Lib.hid (by rw [← hm0]; exact (okR.mul 0 a b).1)
  have HM0 := Lib.hid hm0
  obtain ⟨m1, hm1⟩ : ∃ s, mulP 1 a b = s := ⟨_, rfl⟩
  have LM1 : Hid (m1 < 4294967296) := Lib.hid (by rw [← hm1]; exact (okR.mul 1 a b).1)
  have HM1 := Lib.hid hm1
  have TM : Hid (HH m2 m0 m1) := Lib.hid (by rw [← hm2, ← hm0, ← hm1]; exact HH.mul a b)
  clear hm2 hm0 hm1
  obtain ⟨d2, hd2⟩ : ∃ s, divP 2 a b = s := ⟨_, rfl⟩
  have LD2 : Hid (d2 < 4294967296) := Lib.hid (by rw [← hd2]; exact (okR.div 2 a b).1)
  have HD2 := Lib.hid hd2
  obtain ⟨d0, hd0⟩ : ∃ s, divP 0 a b = s := ⟨_, rfl⟩
  have LD0 : Hid (d0 < 4294967296) := Lib.hid (by rw [← hd0]; exact (okR.div 0 a b).1)
  have HD0 := Lib.hid hd0
  obtain ⟨d1, hd1⟩ : ∃ s, divP 1 a b = s := ⟨_, rfl⟩
  have LD1 : Hid (d1 < 4294967296) := Lib.hid (by rw [← hd1]; exact (okR.div 1 a b).1)
  have HD1 := Lib.hid hd1
  have TD : Hid (HH d2 d0 d1) := Lib.hid (by rw [← hd2, ← hd0, ← hd1]; exact HH.div a b)
  clear hd2 hd0 hd1
  go_enter Try.func9, Try.ntmps9
  go_wp2_with fail
  refine (awake_any _).mono ?_
  rintro e W1 ⟨rfl, hB1⟩
  have hz1 := hB1.size
  go_wp2_with fail
  refine (add_at HA HB HA2).mono ?_
  rintro e W2 ⟨rfl, hC⟩
  have hB2 := hB1.trans (hC.mono hz1)
  have hz2 := hB2.size
  clear hC hB1 hz1
  go_wp2_with fail
  refine (add0_at HA HB HA0).mono ?_
  rintro e W3 ⟨rfl, hC⟩
  have hB3 := hB2.trans (hC.mono hz2)
  have hz3 := hB3.size
  clear hC hB2 hz2
  go_wp2_with fail
  refine (add_at HA HB HA1).mono ?_
  rintro e W4 ⟨rfl, hC⟩
  have hB4 := hB3.trans (hC.mono hz3)
  have hz4 := hB4.size
  clear hC hB3 hz3
  go_wp2_with fail
  refine (holds_at LA2 LA0 LA1 TA).mono ?_
  rintro e w' ⟨rfl, rfl⟩
  go_wp2_with fail
  refine (mul_at HA HB HM2).mono ?_
  rintro e W5 ⟨rfl, hC⟩
  have hB5 := hB4.trans (hC.mono hz4)
  have hz5 := hB5.size
  clear hC hB4 hz4
  go_wp2_with fail
  refine (mul0_at HA HB HM0).mono ?_
  rintro e W6 ⟨rfl, hC⟩
  have hB6 := hB5.trans (hC.mono hz5)
  have hz6 := hB6.size
  clear hC hB5 hz5
  go_wp2_with fail
  refine (mul_at HA HB HM1).mono ?_
  rintro e W7 ⟨rfl, hC⟩
  have hB7 := hB6.trans (hC.mono hz6)
  have hz7 := hB7.size
  clear hC hB6 hz6
  go_wp2_with fail
  refine (holds_at LM2 LM0 LM1 TM).mono ?_
  rintro e w' ⟨rfl, rfl⟩
  go_wp2_with fail
  refine (div_at HA HB HD2).mono ?_
  rintro e W8 ⟨rfl, hC⟩
  have hB8 := hB7.trans (hC.mono hz7)
  have hz8 := hB8.size
  clear hC hB7 hz7
  go_wp2_with fail
  refine (div0_at HA HB HD0).mono ?_
  rintro e W9 ⟨rfl, hC⟩
  have hB9 := hB8.trans (hC.mono hz8)
  have hz9 := hB9.size
  clear hC hB8 hz8
  go_wp2_with fail
  refine (div_at HA HB HD1).mono ?_
  rintro e W10 ⟨rfl, hC⟩
  have hB10 := hB9.trans (hC.mono hz9)
  have hz10 := hB10.size
  clear hC hB9 hz9
  go_wp2_with fail
  refine (holds_at LD2 LD0 LD1 TD).mono ?_
  rintro e w' ⟨rfl, rfl⟩
  go_wp2
  go_ret
  exact ⟨rfl, hB10⟩

/-! ### THE ROW's STEP -/
set_option maxRecDepth 100000 in
theorem lifted (os : Os) (started : os.Started) (H : Type) (enc : TypeId × Value → H) :
    ReturnsInHanded {} Try.checked os 9 .any (Rows.softHoldsSpec.pre6 enc Try.prog Try.f9 Rows.softHoldsRow.domain false) (Rows.softHoldsSpec.post enc Try.prog Try.f9 false true false false) := by
  refine returnsInHanded_of_change_sized (C := Try.checked) own started (by kernel_rfl) Try.func9
    (ChangeSpec.witness6 (enc := enc) (C := Try.checked) false ⟨#[], #[.int .u32 0, .int .u32 0], []⟩ 8 (by kernel_rfl) (by kernel_rfl) (by kernel_rfl) (by kernel_rfl)) ?_
  intro W base args ds gs before hval0 hW hcnd hsz0 _
  have hval : ∀ (j : Nat) t v, Try.f9.params[j]? = some t → args[j]? = some v → Value.okWide Try.prog W .any base t v := hval0
  have hW' := hW
  obtain ⟨p, q, hA0, hV, rfl, hfz, hnd⟩ := hW
  have hA : DataW.TrodAll enc Try.prog W 0 (fun _ => true) true Try.f9.params.toList args.toList ds p := hA0
  have hsz : (DataW.weightsEach Try.prog (Try.f9.params.toList ++ Rows.softHoldsSpec.plain.varTypes Try.prog) (ds ++ gs)).all (· ≤ reachBytes) = true := hsz0
  rw [Try.params9] at hA hval hsz
  obtain ⟨v0, vs0, d0, ds0, p0, q0, hargs, rfl, rfl, h0, r0⟩ := trodAll_cons hA
  obtain ⟨v1, vs1, d1, ds1, p1, q1, rfl, rfl, rfl, h1, r1⟩ := trodAll_cons r0
  obtain ⟨rfl, rfl, rfl⟩ := trodAll_nil r1
  obtain rfl : args = #[v0, v1] := by cases args; simp_all
  obtain ⟨rfl, rfl⟩ := trodVars_none hV
  clear hA0 hval0 hsz0
  obtain ⟨a0, rfl, rfl, rfl, w0⟩ := open_int Try.underlying24 (hval 0 24 v0 rfl rfl) h0
  obtain ⟨a1, rfl, rfl, rfl, w1⟩ := open_int Try.underlying24 (hval 1 24 v1 rfl rfl) h1
  refine (walk W a0 w0 a1 w1).mono fun e W' ⟨he, bel⟩ => ?_
  subst he
  exact ⟨_, rfl, _, _, _, [], _, [], hW', trodAll_mk1 (shut_bool Try.underlying4 _), (trodAll_cons_mk (shut_int Try.underlying24 w0) (trodAll_cons_mk (shut_int Try.underlying24 w1) trodAll_mk0)), rfl, bel.frame _, fun h => by cases h⟩

theorem over : Rows.softHoldsRow.holds Try.pinned (OpenSpec.ofChange Rows.softHoldsSpec) :=
  OpenClaim.holds_of_wide 9 Try.f9 rfl rfl rfl rfl rfl rfl rfl ⟨rfl, rfl, rfl, rfl, rfl⟩ rfl rfl rfl rfl rfl (by kernel_rfl) Try.func9 (by kernel_rfl)
    (of_decide_eq_true (by kernel_rfl)) (by unfold Func.isWrapper; first | (rw [if_pos (by decide +kernel)]; kernel_rfl) | (rw [if_neg (by decide +kernel)]; exact ⟨rfl, rfl⟩))
    (fun os started H enc _ => lifted os started H enc)

theorem proved : Rows.SoftHoldsSaid := over
#print axioms proved
end Go.Proofs.Ytkdlkjoeoahfpaa.softHolds
