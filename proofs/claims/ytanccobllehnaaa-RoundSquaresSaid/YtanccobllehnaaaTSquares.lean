/- The statement RoundSquares: the square of the lesser root is not above the number, that of the greater one not below it; roots of squares of whole numbers are these. No condition. -/
import Derived.Test.YtanccobllehnaaaMSoft
import Derived.Test.YtanccobllehnaaaMRdB
import Derived.Test.YtanccobllehnaaaRdX
import Derived.Test.YtanccobllehnaaaMNat
namespace Go.Proofs.Ytanccobllehnaaa.roundSquares
open Go.ChangeShapes Go.WideShapes Go.ChangeAt Go.RowKit
set_option linter.unusedVariables false

theorem sqrt_at {way : Int} {a r : Nat} {w : World} (h1 : Hid (a < 4294967296)) (hr : Hid (sqrtP way a = r)) :
    Calls Try.prog 16 #[.int .i64 way, .int .u32 (a : Int)] w (BR w r) := by
  have := sqrt_any way a w h1
  rw [hr.out] at this
  exact this
theorem sqrt0_at {a r : Nat} {w : World} (h1 : Hid (a < 4294967296)) (hr : Hid (sqrtP 0 a = r)) :
    Calls Try.prog 18 #[.int .u32 (a : Int)] w (BR w r) := by
  have := sqrt0_any a w h1
  rw [hr.out] at this
  exact this
theorem less0_at {a : Nat} {r : Bool} {w : World} (h : Hid (a < 4294967296)) (hr : Hid (lessP 0 a = r)) : Calls Try.prog 33 #[.int .u32 0, .int .u32 (a : Int)] w fun e w' => e = .returned (.bool r) ∧ w' = w := by
  have := less_any 0 a w (by decide) h.out
  rw [hr.out] at this
  exact this
set_option maxRecDepth 100000 in
set_option maxHeartbeats 3200000 in
theorem walk (w : World) (a0 : Int) (w0 : (Lit.int .u32 a0).wf = true) (n : Int) (w1 : (Lit.int .i64 n).wf = true) :
    Calls Try.prog 8 #[.int .u32 a0, .int .i64 n] w fun e w' => e = .returned (.bool true) ∧ Below w.heap.size w w' := by
  obtain ⟨a, rfl, HA⟩ := u32_nat w0
  have hb := bounds_i64 w1
  have HNB : Hid (-9223372036854775808 ≤ n ∧ n ≤ 9223372036854775807) := Lib.hid (by omega)
  clear w0 w1 hb
  by_cases h1 : 0 ≤ n
  · by_cases h2 : n ≤ 4096
    · have d1 : decide (0 ≤ n) = true := decide_eq_true h1
      have d2 : decide (n ≤ 4096) = true := decide_eq_true h2
      obtain ⟨t1, t2⟩ := sq_int ⟨h1, h2⟩
      obtain ⟨x, hx⟩ : ∃ x, fromP 0 n = x := ⟨_, rfl⟩
      rw [hx] at t1 t2
      obtain ⟨p, hp⟩ : ∃ p, mulP 0 x x = p := ⟨_, rfl⟩
      rw [hp] at t1
      have HPL : Hid (p < 4294967296) := Lib.hid (by rw [← hp]; exact (okR.mul 0 x x).1)
      have HX := Lib.hid hx
      have HXL := Lib.hid t2
      have HP := Lib.hid hp
      have HR := Lib.hid t1
      have hnn : ((x : Int) != (x : Int)) = false := by simp
      have hnn2 : (!((x : Int) == (x : Int))) = false := hnn
      clear h1 h2 t1 t2 hx hp
      cases hl : lessP 0 a
      case false =>
        have L0 := Lib.hid hl
        clear hl
        go_enter Try.func8, Try.ntmps8
        go_wp2_with fail
        refine (rawake_any _).mono ?_
        rintro e W1 ⟨rfl, hB1⟩
        have hz1 := hB1.size
        go_wp2_with fail
        refine (from0_any n _ HNB.out).mono ?_
        rintro e w' ⟨rfl, rfl⟩
        rw [HX.out]
        go_wp2_with fail
        refine (mul0_at HXL HXL HP).mono ?_
        rintro e W2 ⟨rfl, hC⟩
        have hB2 := hB1.trans (hC.mono hz1)
        have hz2 := hB2.size
        clear hC hB1 hz1
        go_wp2_with fail
        refine (sqrt0_at HPL HR).mono ?_
        rintro e W3 ⟨rfl, hC⟩
        have hB3 := hB2.trans (hC.mono hz2)
        have hz3 := hB3.size
        clear hC hB2 hz2
        go_wp2_with fail
        refine (less0_at HA L0).mono ?_
        rintro e w' ⟨rfl, rfl⟩
        go_wp2
        go_ret
        exact ⟨rfl, hB3⟩
      have L0 := Lib.hid hl
      cases hia : infP a
      case true =>
        have IA := Lib.hid hia
        clear hl hia
        go_enter Try.func8, Try.ntmps8
        go_wp2_with fail
        refine (rawake_any _).mono ?_
        rintro e W1 ⟨rfl, hB1⟩
        have hz1 := hB1.size
        go_wp2_with fail
        refine (from0_any n _ HNB.out).mono ?_
        rintro e w' ⟨rfl, rfl⟩
        rw [HX.out]
        go_wp2_with fail
        refine (mul0_at HXL HXL HP).mono ?_
        rintro e W2 ⟨rfl, hC⟩
        have hB2 := hB1.trans (hC.mono hz1)
        have hz2 := hB2.size
        clear hC hB1 hz1
        go_wp2_with fail
        refine (sqrt0_at HPL HR).mono ?_
        rintro e W3 ⟨rfl, hC⟩
        have hB3 := hB2.trans (hC.mono hz2)
        have hz3 := hB3.size
        clear hC hB2 hz2
        go_wp2_with fail
        refine (less0_at HA L0).mono ?_
        rintro e w' ⟨rfl, rfl⟩
        go_wp2_with fail
        refine (inf_at HA IA).mono ?_
        rintro e w' ⟨rfl, rfl⟩
        go_wp2
        go_ret
        exact ⟨rfl, hB3⟩
      have IA := Lib.hid hia
      obtain ⟨s1, s2, s3, s4, s5⟩ := sq_stand HA.out hl hia
      obtain ⟨lo, hlo⟩ : ∃ x, sqrtP 2 a = x := ⟨_, rfl⟩
      obtain ⟨hi, hhi⟩ : ∃ x, sqrtP 1 a = x := ⟨_, rfl⟩
      rw [hlo] at s1 s3 s5
      rw [hhi] at s2 s4 s5
      obtain ⟨be, hbe⟩ : ∃ x, mulP 2 lo lo = x := ⟨_, rfl⟩
      obtain ⟨ab, hab⟩ : ∃ x, mulP 1 hi hi = x := ⟨_, rfl⟩
      rw [hbe] at s3
      rw [hab] at s4
      have LL := Lib.hid s1
      have HL := Lib.hid s2
      have S3 := Lib.hid s3
      have S4 := Lib.hid s4
      have S5 := Lib.hid s5
      have HLO := Lib.hid hlo
      have HHI := Lib.hid hhi
      have HBE := Lib.hid hbe
      have HAB := Lib.hid hab
      have BL : Hid (be < 4294967296) := Lib.hid (by rw [← hbe]; exact (okR.mul 2 lo lo).1)
      have AL : Hid (ab < 4294967296) := Lib.hid (by rw [← hab]; exact (okR.mul 1 hi hi).1)
      clear hl hia s1 s2 s3 s4 s5 hlo hhi hbe hab
      go_enter Try.func8, Try.ntmps8
      go_wp2_with fail
      refine (rawake_any _).mono ?_
      rintro e W1 ⟨rfl, hB1⟩
      have hz1 := hB1.size
      go_wp2_with fail
      refine (from0_any n _ HNB.out).mono ?_
      rintro e w' ⟨rfl, rfl⟩
      rw [HX.out]
      go_wp2_with fail
      refine (mul0_at HXL HXL HP).mono ?_
      rintro e W2 ⟨rfl, hC⟩
      have hB2 := hB1.trans (hC.mono hz1)
      have hz2 := hB2.size
      clear hC hB1 hz1
      go_wp2_with fail
      refine (sqrt0_at HPL HR).mono ?_
      rintro e W3 ⟨rfl, hC⟩
      have hB3 := hB2.trans (hC.mono hz2)
      have hz3 := hB3.size
      clear hC hB2 hz2
      go_wp2_with fail
      refine (less0_at HA L0).mono ?_
      rintro e w' ⟨rfl, rfl⟩
      go_wp2_with fail
      refine (inf_at HA IA).mono ?_
      rintro e w' ⟨rfl, rfl⟩
      go_wp2_with fail
      refine (sqrt_at HA HLO).mono ?_
      rintro e W4 ⟨rfl, hC⟩
      have hB4 := hB3.trans (hC.mono hz3)
      have hz4 := hB4.size
      clear hC hB3 hz3
      go_wp2_with fail
      refine (sqrt_at HA HHI).mono ?_
      rintro e W5 ⟨rfl, hC⟩
      have hB5 := hB4.trans (hC.mono hz4)
      have hz5 := hB5.size
      clear hC hB4 hz4
      go_wp2_with fail
      refine (mul_at LL LL HBE).mono ?_
      rintro e W6 ⟨rfl, hC⟩
      have hB6 := hB5.trans (hC.mono hz5)
      have hz6 := hB6.size
      clear hC hB5 hz5
      go_wp2_with fail
      refine (mul_at HL HL HAB).mono ?_
      rintro e W7 ⟨rfl, hC⟩
      have hB7 := hB6.trans (hC.mono hz6)
      have hz7 := hB7.size
      clear hC hB6 hz6
      go_wp2_with fail
      refine (less_at HA BL S3).mono ?_
      rintro e w' ⟨rfl, rfl⟩
      go_wp2_with fail
      refine (less_at AL HA S4).mono ?_
      rintro e w' ⟨rfl, rfl⟩
      go_wp2_with fail
      refine (less_at HL LL S5).mono ?_
      rintro e w' ⟨rfl, rfl⟩
      go_wp2
      go_ret
      exact ⟨rfl, hB7⟩
    · have d1 : decide (0 ≤ n) = true := decide_eq_true h1
      have d2 : decide (n ≤ 4096) = false := decide_eq_false h2
      clear h1 h2
      cases hl : lessP 0 a
      case false =>
        have L0 := Lib.hid hl
        clear hl
        go_enter Try.func8, Try.ntmps8
        go_wp2_with fail
        refine (rawake_any _).mono ?_
        rintro e W1 ⟨rfl, hB1⟩
        have hz1 := hB1.size
        go_wp2_with fail
        refine (less0_at HA L0).mono ?_
        rintro e w' ⟨rfl, rfl⟩
        go_wp2
        go_ret
        exact ⟨rfl, hB1⟩
      have L0 := Lib.hid hl
      cases hia : infP a
      case true =>
        have IA := Lib.hid hia
        clear hl hia
        go_enter Try.func8, Try.ntmps8
        go_wp2_with fail
        refine (rawake_any _).mono ?_
        rintro e W1 ⟨rfl, hB1⟩
        have hz1 := hB1.size
        go_wp2_with fail
        refine (less0_at HA L0).mono ?_
        rintro e w' ⟨rfl, rfl⟩
        go_wp2_with fail
        refine (inf_at HA IA).mono ?_
        rintro e w' ⟨rfl, rfl⟩
        go_wp2
        go_ret
        exact ⟨rfl, hB1⟩
      have IA := Lib.hid hia
      obtain ⟨s1, s2, s3, s4, s5⟩ := sq_stand HA.out hl hia
      obtain ⟨lo, hlo⟩ : ∃ x, sqrtP 2 a = x := ⟨_, rfl⟩
      obtain ⟨hi, hhi⟩ : ∃ x, sqrtP 1 a = x := ⟨_, rfl⟩
      rw [hlo] at s1 s3 s5
      rw [hhi] at s2 s4 s5
      obtain ⟨be, hbe⟩ : ∃ x, mulP 2 lo lo = x := ⟨_, rfl⟩
      obtain ⟨ab, hab⟩ : ∃ x, mulP 1 hi hi = x := ⟨_, rfl⟩
      rw [hbe] at s3
      rw [hab] at s4
      have LL := Lib.hid s1
      have HL := Lib.hid s2
      have S3 := Lib.hid s3
      have S4 := Lib.hid s4
      have S5 := Lib.hid s5
      have HLO := Lib.hid hlo
      have HHI := Lib.hid hhi
      have HBE := Lib.hid hbe
      have HAB := Lib.hid hab
      have BL : Hid (be < 4294967296) := Lib.hid (by rw [← hbe]; exact (okR.mul 2 lo lo).1)
      have AL : Hid (ab < 4294967296) := Lib.hid (by rw [← hab]; exact (okR.mul 1 hi hi).1)
      clear hl hia s1 s2 s3 s4 s5 hlo hhi hbe hab
      go_enter Try.func8, Try.ntmps8
      go_wp2_with fail
      refine (rawake_any _).mono ?_
      rintro e W1 ⟨rfl, hB1⟩
      have hz1 := hB1.size
      go_wp2_with fail
      refine (less0_at HA L0).mono ?_
      rintro e w' ⟨rfl, rfl⟩
      go_wp2_with fail
      refine (inf_at HA IA).mono ?_
      rintro e w' ⟨rfl, rfl⟩
      go_wp2_with fail
      refine (sqrt_at HA HLO).mono ?_
      rintro e W2 ⟨rfl, hC⟩
      have hB2 := hB1.trans (hC.mono hz1)
      have hz2 := hB2.size
      clear hC hB1 hz1
      go_wp2_with fail
      refine (sqrt_at HA HHI).mono ?_
      rintro e W3 ⟨rfl, hC⟩
      have hB3 := hB2.trans (hC.mono hz2)
      have hz3 := hB3.size
      clear hC hB2 hz2
      go_wp2_with fail
      refine (mul_at LL LL HBE).mono ?_
      rintro e W4 ⟨rfl, hC⟩
      have hB4 := hB3.trans (hC.mono hz3)
      have hz4 := hB4.size
      clear hC hB3 hz3
      go_wp2_with fail
      refine (mul_at HL HL HAB).mono ?_
      rintro e W5 ⟨rfl, hC⟩
      have hB5 := hB4.trans (hC.mono hz4)
      have hz5 := hB5.size
      clear hC hB4 hz4
      go_wp2_with fail
      refine (less_at HA BL S3).mono ?_
      rintro e w' ⟨rfl, rfl⟩
      go_wp2_with fail
      refine (less_at AL HA S4).mono ?_
      rintro e w' ⟨rfl, rfl⟩
      go_wp2_with fail
      refine (less_at HL LL S5).mono ?_
      rintro e w' ⟨rfl, rfl⟩
      go_wp2
      go_ret
      exact ⟨rfl, hB5⟩
  · have d1 : decide (0 ≤ n) = false := decide_eq_false h1
    clear h1
    cases hl : lessP 0 a
    case false =>
      have L0 := Lib.hid hl
      clear hl
      go_enter Try.func8, Try.ntmps8
      go_wp2_with fail
      refine (rawake_any _).mono ?_
      rintro e W1 ⟨rfl, hB1⟩
      have hz1 := hB1.size
      go_wp2_with fail
      refine (less0_at HA L0).mono ?_
      rintro e w' ⟨rfl, rfl⟩
      go_wp2
      go_ret
      exact ⟨rfl, hB1⟩
    have L0 := Lib.hid hl
    cases hia : infP a
    case true =>
      have IA := Lib.hid hia
      clear hl hia
      go_enter Try.func8, Try.ntmps8
      go_wp2_with fail
      refine (rawake_any _).mono ?_
      rintro e W1 ⟨rfl, hB1⟩
      have hz1 := hB1.size
      go_wp2_with fail
      refine (less0_at HA L0).mono ?_
      rintro e w' ⟨rfl, rfl⟩
      go_wp2_with fail
      refine (inf_at HA IA).mono ?_
      rintro e w' ⟨rfl, rfl⟩
      go_wp2
      go_ret
      exact ⟨rfl, hB1⟩
    have IA := Lib.hid hia
    obtain ⟨s1, s2, s3, s4, s5⟩ := sq_stand HA.out hl hia
    obtain ⟨lo, hlo⟩ : ∃ x, sqrtP 2 a = x := ⟨_, rfl⟩
    obtain ⟨hi, hhi⟩ : ∃ x, sqrtP 1 a = x := ⟨_, rfl⟩
    rw [hlo] at s1 s3 s5
    rw [hhi] at s2 s4 s5
    obtain ⟨be, hbe⟩ : ∃ x, mulP 2 lo lo = x := ⟨_, rfl⟩
    obtain ⟨ab, hab⟩ : ∃ x, mulP 1 hi hi = x := ⟨_, rfl⟩
    rw [hbe] at s3
    rw [hab] at s4
    have LL := Lib.hid s1
    have HL := Lib.hid s2
    have S3 := Lib.hid s3
    have S4 := Lib.hid s4
    have S5 := Lib.hid s5
    have HLO := Lib.hid hlo
    have HHI := Lib.hid hhi
    have HBE := Lib.hid hbe
    have HAB := Lib.hid hab
    have BL : Hid (be < 4294967296) := Lib.hid (by rw [← hbe]; exact (okR.mul 2 lo lo).1)
    have AL : Hid (ab < 4294967296) := Lib.hid (by rw [← hab]; exact (okR.mul 1 hi hi).1)
    clear hl hia s1 s2 s3 s4 s5 hlo hhi hbe hab
    go_enter Try.func8, Try.ntmps8
    go_wp2_with fail
    refine (rawake_any _).mono ?_
    rintro e W1 ⟨rfl, hB1⟩
    have hz1 := hB1.size
    go_wp2_with fail
    refine (less0_at HA L0).mono ?_
    rintro e w' ⟨rfl, rfl⟩
    go_wp2_with fail
    refine (inf_at HA IA).mono ?_
    rintro e w' ⟨rfl, rfl⟩
    go_wp2_with fail
    refine (sqrt_at HA HLO).mono ?_
    rintro e W2 ⟨rfl, hC⟩
    have hB2 := hB1.trans (hC.mono hz1)
    have hz2 := hB2.size
    clear hC hB1 hz1
    go_wp2_with fail
    refine (sqrt_at HA HHI).mono ?_
    rintro e W3 ⟨rfl, hC⟩
    have hB3 := hB2.trans (hC.mono hz2)
    have hz3 := hB3.size
    clear hC hB2 hz2
    go_wp2_with fail
    refine (mul_at LL LL HBE).mono ?_
    rintro e W4 ⟨rfl, hC⟩
    have hB4 := hB3.trans (hC.mono hz3)
    have hz4 := hB4.size
    clear hC hB3 hz3
    go_wp2_with fail
    refine (mul_at HL HL HAB).mono ?_
    rintro e W5 ⟨rfl, hC⟩
    have hB5 := hB4.trans (hC.mono hz4)
    have hz5 := hB5.size
    clear hC hB4 hz4
    go_wp2_with fail
    refine (less_at HA BL S3).mono ?_
    rintro e w' ⟨rfl, rfl⟩
    go_wp2_with fail
    refine (less_at AL HA S4).mono ?_
    rintro e w' ⟨rfl, rfl⟩
    go_wp2_with fail
    refine (less_at HL LL S5).mono ?_
    rintro e w' ⟨rfl, rfl⟩
    go_wp2
    go_ret
    exact ⟨rfl, hB5⟩

/-! ### THE ROW's STEP -/
set_option maxRecDepth 100000 in
theorem lifted (os : Os) (started : os.Started) (H : Type) (enc : TypeId × Value → H) :
    ReturnsInHanded {} Try.checked os 8 .any (Rows.roundSquaresSpec.pre6 enc Try.prog Try.f8 Rows.roundSquaresRow.domain false) (Rows.roundSquaresSpec.post enc Try.prog Try.f8 false true false false) := by
  refine returnsInHanded_of_change_sized (C := Try.checked) own started (by kernel_rfl) Try.func8
    (ChangeSpec.witness6 (enc := enc) (C := Try.checked) false ⟨#[], #[.int .u32 0, .int .i64 0], []⟩ 8 (by kernel_rfl) (by kernel_rfl) (by kernel_rfl) (by kernel_rfl)) ?_
  intro W base args ds gs before hval0 hW hcnd hsz0 _
  have hval : ∀ (j : Nat) t v, Try.f8.params[j]? = some t → args[j]? = some v → Value.okWide Try.prog W .any base t v := hval0
  have hW' := hW
  obtain ⟨p, q, hA0, hV, rfl, hfz, hnd⟩ := hW
  have hA : DataW.TrodAll enc Try.prog W 0 (fun _ => true) true Try.f8.params.toList args.toList ds p := hA0
  have hsz : (DataW.weightsEach Try.prog (Try.f8.params.toList ++ Rows.roundSquaresSpec.plain.varTypes Try.prog) (ds ++ gs)).all (· ≤ reachBytes) = true := hsz0
  rw [Try.params8] at hA hval hsz
  obtain ⟨v0, vs0, d0, ds0, p0, q0, hargs, rfl, rfl, h0, r0⟩ := trodAll_cons hA
  obtain ⟨v1, vs1, d1, ds1, p1, q1, rfl, rfl, rfl, h1, r1⟩ := trodAll_cons r0
  obtain ⟨rfl, rfl, rfl⟩ := trodAll_nil r1
  obtain rfl : args = #[v0, v1] := by cases args; simp_all
  obtain ⟨rfl, rfl⟩ := trodVars_none hV
  clear hA0 hval0 hsz0
  obtain ⟨a0, rfl, rfl, rfl, w0⟩ := open_int Try.underlying22 (hval 0 22 v0 rfl rfl) h0
  obtain ⟨a1, rfl, rfl, rfl, w1⟩ := open_int Try.underlying2 (hval 1 2 v1 rfl rfl) h1
  refine (walk W a0 w0 a1 w1).mono fun e W' ⟨he, bel⟩ => ?_
  subst he
  exact ⟨_, rfl, _, _, _, [], _, [], hW', trodAll_mk1 (shut_bool Try.underlying4 _), (trodAll_cons_mk (shut_int Try.underlying22 w0) (trodAll_cons_mk (shut_int Try.underlying2 w1) trodAll_mk0)), rfl, bel.frame _, fun h => by cases h⟩

theorem over : Rows.roundSquaresRow.holds Try.pinned (OpenSpec.ofChange Rows.roundSquaresSpec) :=
  OpenClaim.holds_of_wide 8 Try.f8 rfl rfl rfl rfl rfl rfl rfl ⟨rfl, rfl, rfl, rfl, rfl⟩ rfl rfl rfl rfl rfl (by kernel_rfl) Try.func8 (by kernel_rfl)
    (of_decide_eq_true (by kernel_rfl)) (by unfold Func.isWrapper; first | (rw [if_pos (by decide +kernel)]; kernel_rfl) | (rw [if_neg (by decide +kernel)]; exact ⟨rfl, rfl⟩))
    (fun os started H enc _ => lifted os started H enc)

theorem proved : Rows.RoundSquaresSaid := over
#print axioms proved
end Go.Proofs.Ytanccobllehnaaa.roundSquares
