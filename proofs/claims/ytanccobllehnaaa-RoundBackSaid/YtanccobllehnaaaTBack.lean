/- The statement RoundBack: whole numbers come back; Floor, Ceil and Even stand as they must, and twice is once. No condition. -/
import Derived.Test.YtanccobllehnaaaMSoft
import Derived.Test.YtanccobllehnaaaMRdB
import Derived.Test.YtanccobllehnaaaRdX
import Derived.Test.YtanccobllehnaaaMNat
namespace Go.Proofs.Ytanccobllehnaaa.roundBack
open Go.ChangeShapes Go.WideShapes Go.ChangeAt Go.RowKit
set_option linter.unusedVariables false

theorem floor_at {a r : Nat} {w : World} (h : Hid (a < 4294967296)) (hr : Hid (wholeP 0 a = r)) : Calls Try.prog 28 #[.int .u32 (a : Int)] w (BR w r) := by
  have := floor_any a w h
  rw [hr.out] at this
  exact this
theorem ceil_at {a r : Nat} {w : World} (h : Hid (a < 4294967296)) (hr : Hid (wholeP 1 a = r)) : Calls Try.prog 30 #[.int .u32 (a : Int)] w (BR w r) := by
  have := ceil_any a w h
  rw [hr.out] at this
  exact this
theorem even_at {a r : Nat} {w : World} (h : Hid (a < 4294967296)) (hr : Hid (wholeP 2 a = r)) : Calls Try.prog 31 #[.int .u32 (a : Int)] w (BR w r) := by
  have := even_any a w h
  rw [hr.out] at this
  exact this
theorem toint_at {a : Nat} {r : Int} {w : World} (h : Hid (a < 4294967296)) (hr : Hid (toIntP a = r)) : Calls Try.prog 24 #[.int .u32 (a : Int)] w fun e w' => e = .returned (.int .i64 r) ∧ Below w.heap.size w w' := by
  have := toint_any a w h
  rw [hr.out] at this
  exact this
set_option maxRecDepth 100000 in
set_option maxHeartbeats 3200000 in
theorem walk (w : World) (n : Int) (w0 : (Lit.int .i64 n).wf = true) (a1 : Int) (w1 : (Lit.int .u32 a1).wf = true) :
    Calls Try.prog 9 #[.int .i64 n, .int .u32 a1] w fun e w' => e = .returned (.bool true) ∧ Below w.heap.size w w' := by
  obtain ⟨a, rfl, HA⟩ := u32_nat w1
  have hb := bounds_i64 w0
  have HNB : Hid (-9223372036854775808 ≤ n ∧ n ≤ 9223372036854775807) := Lib.hid (by omega)
  clear w0 w1 hb
  by_cases h1 : -16777216 ≤ n
  · by_cases h2 : n ≤ 16777216
    · have d1 : decide (-16777216 ≤ n) = true := decide_eq_true h1
      have d2 : decide (n ≤ 16777216) = true := decide_eq_true h2
      obtain ⟨t1, t2⟩ := int_back ⟨h1, h2⟩
      obtain ⟨x, hx⟩ : ∃ x, fromP 0 n = x := ⟨_, rfl⟩
      rw [hx] at t1 t2
      have HX := Lib.hid hx
      have HXL := Lib.hid t2
      have HT := Lib.hid t1
      have hnn : (n != n) = false := by simp
      have hnn2 : (!(n == n)) = false := hnn
      clear h1 h2 t1 t2 hx
      cases hna : nanP a
      case true =>
        have NA := Lib.hid hna
        clear hna
        go_enter Try.func9, Try.ntmps9
        go_wp2_with fail
        refine (rawake_any _).mono ?_
        rintro e W1 ⟨rfl, hB1⟩
        have hz1 := hB1.size
        go_wp2_with fail
        refine (from0_any n _ HNB.out).mono ?_
        rintro e w' ⟨rfl, rfl⟩
        rw [HX.out]
        go_wp2_with fail
        refine (toint_at HXL HT).mono ?_
        rintro e W2 ⟨rfl, hC⟩
        have hB2 := hB1.trans (hC.mono hz1)
        have hz2 := hB2.size
        clear hC hB1 hz1
        go_wp2_with fail
        refine (nan_at HA NA).mono ?_
        rintro e w' ⟨rfl, rfl⟩
        go_wp2
        go_ret
        exact ⟨rfl, hB2⟩
      cases hia : infP a
      case true =>
        have NA := Lib.hid hna
        have IA := Lib.hid hia
        clear hna hia
        go_enter Try.func9, Try.ntmps9
        go_wp2_with fail
        refine (rawake_any _).mono ?_
        rintro e W1 ⟨rfl, hB1⟩
        have hz1 := hB1.size
        go_wp2_with fail
        refine (from0_any n _ HNB.out).mono ?_
        rintro e w' ⟨rfl, rfl⟩
        rw [HX.out]
        go_wp2_with fail
        refine (toint_at HXL HT).mono ?_
        rintro e W2 ⟨rfl, hC⟩
        have hB2 := hB1.trans (hC.mono hz1)
        have hz2 := hB2.size
        clear hC hB1 hz1
        go_wp2_with fail
        refine (nan_at HA NA).mono ?_
        rintro e w' ⟨rfl, rfl⟩
        go_wp2_with fail
        refine (inf_at HA IA).mono ?_
        rintro e w' ⟨rfl, rfl⟩
        go_wp2
        go_ret
        exact ⟨rfl, hB2⟩
      have st := stand_any HA.out hna hia
      have NA := Lib.hid hna
      have IA := Lib.hid hia
      obtain ⟨f, hf⟩ : ∃ x, wholeP 0 a = x := ⟨_, rfl⟩
      obtain ⟨c, hc⟩ : ∃ x, wholeP 1 a = x := ⟨_, rfl⟩
      obtain ⟨e, he⟩ : ∃ x, wholeP 2 a = x := ⟨_, rfl⟩
      rw [hf, hc, he] at st
      have HF := Lib.hid hf
      have HC := Lib.hid hc
      have HE := Lib.hid he
      have FL := Lib.hid st.fl
      have CL := Lib.hid st.cl
      have EL := Lib.hid st.el
      have AF := Lib.hid st.af
      have CA := Lib.hid st.ca
      have V0 := Lib.hid st.w0
      have V1 := Lib.hid st.w1
      have V2 := Lib.hid st.w2
      have V3 := Lib.hid st.w3
      have V4 := Lib.hid st.w4
      have V5 := Lib.hid st.w5
      have hfa := st.fa
      have hef := st.ef
      obtain ⟨q, hq⟩ : ∃ x, equalP c a = x := ⟨_, rfl⟩
      rw [hq] at hfa
      have FA := Lib.hid hfa
      have CA2 := Lib.hid hq
      have hqq : (q != q) = false := by simp
      have hqq2 : (!(q == q)) = false := hqq
      cases h1 : equalP e f
      case true =>
        have EF := Lib.hid h1
        clear hna hia st hf hc he hfa hef hq h1
        go_enter Try.func9, Try.ntmps9
        go_wp2_with fail
        refine (rawake_any _).mono ?_
        rintro e W1 ⟨rfl, hB1⟩
        have hz1 := hB1.size
        go_wp2_with fail
        refine (from0_any n _ HNB.out).mono ?_
        rintro e w' ⟨rfl, rfl⟩
        rw [HX.out]
        go_wp2_with fail
        refine (toint_at HXL HT).mono ?_
        rintro e W2 ⟨rfl, hC⟩
        have hB2 := hB1.trans (hC.mono hz1)
        have hz2 := hB2.size
        clear hC hB1 hz1
        go_wp2_with fail
        refine (nan_at HA NA).mono ?_
        rintro e w' ⟨rfl, rfl⟩
        go_wp2_with fail
        refine (inf_at HA IA).mono ?_
        rintro e w' ⟨rfl, rfl⟩
        go_wp2_with fail
        refine (floor_at HA HF).mono ?_
        rintro e W3 ⟨rfl, hC⟩
        have hB3 := hB2.trans (hC.mono hz2)
        have hz3 := hB3.size
        clear hC hB2 hz2
        go_wp2_with fail
        refine (ceil_at HA HC).mono ?_
        rintro e W4 ⟨rfl, hC⟩
        have hB4 := hB3.trans (hC.mono hz3)
        have hz4 := hB4.size
        clear hC hB3 hz3
        go_wp2_with fail
        refine (even_at HA HE).mono ?_
        rintro e W5 ⟨rfl, hC⟩
        have hB5 := hB4.trans (hC.mono hz4)
        have hz5 := hB5.size
        clear hC hB4 hz4
        go_wp2_with fail
        refine (less_at HA FL AF).mono ?_
        rintro e w' ⟨rfl, rfl⟩
        go_wp2_with fail
        refine (less_at CL HA CA).mono ?_
        rintro e w' ⟨rfl, rfl⟩
        go_wp2_with fail
        refine (equal_at FL HA FA).mono ?_
        rintro e w' ⟨rfl, rfl⟩
        go_wp2_with fail
        refine (equal_at CL HA CA2).mono ?_
        rintro e w' ⟨rfl, rfl⟩
        go_wp2_with fail
        refine (equal_at EL FL EF).mono ?_
        rintro e w' ⟨rfl, rfl⟩
        go_wp2_with fail
        refine (floor_at FL V0).mono ?_
        rintro e W6 ⟨rfl, hC⟩
        have hB6 := hB5.trans (hC.mono hz5)
        have hz6 := hB6.size
        clear hC hB5 hz5
        go_wp2_with fail
        refine (ceil_at FL V1).mono ?_
        rintro e W7 ⟨rfl, hC⟩
        have hB7 := hB6.trans (hC.mono hz6)
        have hz7 := hB7.size
        clear hC hB6 hz6
        go_wp2_with fail
        refine (even_at FL V2).mono ?_
        rintro e W8 ⟨rfl, hC⟩
        have hB8 := hB7.trans (hC.mono hz7)
        have hz8 := hB8.size
        clear hC hB7 hz7
        go_wp2_with fail
        refine (floor_at CL V3).mono ?_
        rintro e W9 ⟨rfl, hC⟩
        have hB9 := hB8.trans (hC.mono hz8)
        have hz9 := hB9.size
        clear hC hB8 hz8
        go_wp2_with fail
        refine (even_at CL V4).mono ?_
        rintro e W10 ⟨rfl, hC⟩
        have hB10 := hB9.trans (hC.mono hz9)
        have hz10 := hB10.size
        clear hC hB9 hz9
        go_wp2_with fail
        refine (ceil_at EL V5).mono ?_
        rintro e W11 ⟨rfl, hC⟩
        have hB11 := hB10.trans (hC.mono hz10)
        have hz11 := hB11.size
        clear hC hB10 hz10
        go_wp2
        go_ret
        exact ⟨rfl, hB11⟩
      have EF0 := Lib.hid h1
      have EC : Hid (equalP e c = true) := Lib.hid (by
        rcases hef with h | h
        · rw [h1] at h; cases h
        · exact h)
      clear hna hia st hf hc he hfa hef hq h1
      go_enter Try.func9, Try.ntmps9
      go_wp2_with fail
      refine (rawake_any _).mono ?_
      rintro e W1 ⟨rfl, hB1⟩
      have hz1 := hB1.size
      go_wp2_with fail
      refine (from0_any n _ HNB.out).mono ?_
      rintro e w' ⟨rfl, rfl⟩
      rw [HX.out]
      go_wp2_with fail
      refine (toint_at HXL HT).mono ?_
      rintro e W2 ⟨rfl, hC⟩
      have hB2 := hB1.trans (hC.mono hz1)
      have hz2 := hB2.size
      clear hC hB1 hz1
      go_wp2_with fail
      refine (nan_at HA NA).mono ?_
      rintro e w' ⟨rfl, rfl⟩
      go_wp2_with fail
      refine (inf_at HA IA).mono ?_
      rintro e w' ⟨rfl, rfl⟩
      go_wp2_with fail
      refine (floor_at HA HF).mono ?_
      rintro e W3 ⟨rfl, hC⟩
      have hB3 := hB2.trans (hC.mono hz2)
      have hz3 := hB3.size
      clear hC hB2 hz2
      go_wp2_with fail
      refine (ceil_at HA HC).mono ?_
      rintro e W4 ⟨rfl, hC⟩
      have hB4 := hB3.trans (hC.mono hz3)
      have hz4 := hB4.size
      clear hC hB3 hz3
      go_wp2_with fail
      refine (even_at HA HE).mono ?_
      rintro e W5 ⟨rfl, hC⟩
      have hB5 := hB4.trans (hC.mono hz4)
      have hz5 := hB5.size
      clear hC hB4 hz4
      go_wp2_with fail
      refine (less_at HA FL AF).mono ?_
      rintro e w' ⟨rfl, rfl⟩
      go_wp2_with fail
      refine (less_at CL HA CA).mono ?_
      rintro e w' ⟨rfl, rfl⟩
      go_wp2_with fail
      refine (equal_at FL HA FA).mono ?_
      rintro e w' ⟨rfl, rfl⟩
      go_wp2_with fail
      refine (equal_at CL HA CA2).mono ?_
      rintro e w' ⟨rfl, rfl⟩
      go_wp2_with fail
      refine (equal_at EL FL EF0).mono ?_
      rintro e w' ⟨rfl, rfl⟩
      go_wp2_with fail
      refine (equal_at EL CL EC).mono ?_
      rintro e w' ⟨rfl, rfl⟩
      go_wp2_with fail
      refine (floor_at FL V0).mono ?_
      rintro e W6 ⟨rfl, hC⟩
      have hB6 := hB5.trans (hC.mono hz5)
      have hz6 := hB6.size
      clear hC hB5 hz5
      go_wp2_with fail
      refine (ceil_at FL V1).mono ?_
      rintro e W7 ⟨rfl, hC⟩
      have hB7 := hB6.trans (hC.mono hz6)
      have hz7 := hB7.size
      clear hC hB6 hz6
      go_wp2_with fail
      refine (even_at FL V2).mono ?_
      rintro e W8 ⟨rfl, hC⟩
      have hB8 := hB7.trans (hC.mono hz7)
      have hz8 := hB8.size
      clear hC hB7 hz7
      go_wp2_with fail
      refine (floor_at CL V3).mono ?_
      rintro e W9 ⟨rfl, hC⟩
      have hB9 := hB8.trans (hC.mono hz8)
      have hz9 := hB9.size
      clear hC hB8 hz8
      go_wp2_with fail
      refine (even_at CL V4).mono ?_
      rintro e W10 ⟨rfl, hC⟩
      have hB10 := hB9.trans (hC.mono hz9)
      have hz10 := hB10.size
      clear hC hB9 hz9
      go_wp2_with fail
      refine (ceil_at EL V5).mono ?_
      rintro e W11 ⟨rfl, hC⟩
      have hB11 := hB10.trans (hC.mono hz10)
      have hz11 := hB11.size
      clear hC hB10 hz10
      go_wp2
      go_ret
      exact ⟨rfl, hB11⟩
    · have d1 : decide (-16777216 ≤ n) = true := decide_eq_true h1
      have d2 : decide (n ≤ 16777216) = false := decide_eq_false h2
      clear h1 h2
      cases hna : nanP a
      case true =>
        have NA := Lib.hid hna
        clear hna
        go_enter Try.func9, Try.ntmps9
        go_wp2_with fail
        refine (rawake_any _).mono ?_
        rintro e W1 ⟨rfl, hB1⟩
        have hz1 := hB1.size
        go_wp2_with fail
        refine (nan_at HA NA).mono ?_
        rintro e w' ⟨rfl, rfl⟩
        go_wp2
        go_ret
        exact ⟨rfl, hB1⟩
      cases hia : infP a
      case true =>
        have NA := Lib.hid hna
        have IA := Lib.hid hia
        clear hna hia
        go_enter Try.func9, Try.ntmps9
        go_wp2_with fail
        refine (rawake_any _).mono ?_
        rintro e W1 ⟨rfl, hB1⟩
        have hz1 := hB1.size
        go_wp2_with fail
        refine (nan_at HA NA).mono ?_
        rintro e w' ⟨rfl, rfl⟩
        go_wp2_with fail
        refine (inf_at HA IA).mono ?_
        rintro e w' ⟨rfl, rfl⟩
        go_wp2
        go_ret
        exact ⟨rfl, hB1⟩
      have st := stand_any HA.out hna hia
      have NA := Lib.hid hna
      have IA := Lib.hid hia
      obtain ⟨f, hf⟩ : ∃ x, wholeP 0 a = x := ⟨_, rfl⟩
      obtain ⟨c, hc⟩ : ∃ x, wholeP 1 a = x := ⟨_, rfl⟩
      obtain ⟨e, he⟩ : ∃ x, wholeP 2 a = x := ⟨_, rfl⟩
      rw [hf, hc, he] at st
      have HF := Lib.hid hf
      have HC := Lib.hid hc
      have HE := Lib.hid he
      have FL := Lib.hid st.fl
      have CL := Lib.hid st.cl
      have EL := Lib.hid st.el
      have AF := Lib.hid st.af
      have CA := Lib.hid st.ca
      have V0 := Lib.hid st.w0
      have V1 := Lib.hid st.w1
      have V2 := Lib.hid st.w2
      have V3 := Lib.hid st.w3
      have V4 := Lib.hid st.w4
      have V5 := Lib.hid st.w5
      have hfa := st.fa
      have hef := st.ef
      obtain ⟨q, hq⟩ : ∃ x, equalP c a = x := ⟨_, rfl⟩
      rw [hq] at hfa
      have FA := Lib.hid hfa
      have CA2 := Lib.hid hq
      have hqq : (q != q) = false := by simp
      have hqq2 : (!(q == q)) = false := hqq
      cases h1 : equalP e f
      case true =>
        have EF := Lib.hid h1
        clear hna hia st hf hc he hfa hef hq h1
        go_enter Try.func9, Try.ntmps9
        go_wp2_with fail
        refine (rawake_any _).mono ?_
        rintro e W1 ⟨rfl, hB1⟩
        have hz1 := hB1.size
        go_wp2_with fail
        refine (nan_at HA NA).mono ?_
        rintro e w' ⟨rfl, rfl⟩
        go_wp2_with fail
        refine (inf_at HA IA).mono ?_
        rintro e w' ⟨rfl, rfl⟩
        go_wp2_with fail
        refine (floor_at HA HF).mono ?_
        rintro e W2 ⟨rfl, hC⟩
        have hB2 := hB1.trans (hC.mono hz1)
        have hz2 := hB2.size
        clear hC hB1 hz1
        go_wp2_with fail
        refine (ceil_at HA HC).mono ?_
        rintro e W3 ⟨rfl, hC⟩
        have hB3 := hB2.trans (hC.mono hz2)
        have hz3 := hB3.size
        clear hC hB2 hz2
        go_wp2_with fail
        refine (even_at HA HE).mono ?_
        rintro e W4 ⟨rfl, hC⟩
        have hB4 := hB3.trans (hC.mono hz3)
        have hz4 := hB4.size
        clear hC hB3 hz3
        go_wp2_with fail
        refine (less_at HA FL AF).mono ?_
        rintro e w' ⟨rfl, rfl⟩
        go_wp2_with fail
        refine (less_at CL HA CA).mono ?_
        rintro e w' ⟨rfl, rfl⟩
        go_wp2_with fail
        refine (equal_at FL HA FA).mono ?_
        rintro e w' ⟨rfl, rfl⟩
        go_wp2_with fail
        refine (equal_at CL HA CA2).mono ?_
        rintro e w' ⟨rfl, rfl⟩
        go_wp2_with fail
        refine (equal_at EL FL EF).mono ?_
        rintro e w' ⟨rfl, rfl⟩
        go_wp2_with fail
        refine (floor_at FL V0).mono ?_
        rintro e W5 ⟨rfl, hC⟩
        have hB5 := hB4.trans (hC.mono hz4)
        have hz5 := hB5.size
        clear hC hB4 hz4
        go_wp2_with fail
        refine (ceil_at FL V1).mono ?_
        rintro e W6 ⟨rfl, hC⟩
        have hB6 := hB5.trans (hC.mono hz5)
        have hz6 := hB6.size
        clear hC hB5 hz5
        go_wp2_with fail
        refine (even_at FL V2).mono ?_
        rintro e W7 ⟨rfl, hC⟩
        have hB7 := hB6.trans (hC.mono hz6)
        have hz7 := hB7.size
        clear hC hB6 hz6
        go_wp2_with fail
        refine (floor_at CL V3).mono ?_
        rintro e W8 ⟨rfl, hC⟩
        have hB8 := hB7.trans (hC.mono hz7)
        have hz8 := hB8.size
        clear hC hB7 hz7
        go_wp2_with fail
        refine (even_at CL V4).mono ?_
        rintro e W9 ⟨rfl, hC⟩
        have hB9 := hB8.trans (hC.mono hz8)
        have hz9 := hB9.size
        clear hC hB8 hz8
        go_wp2_with fail
        refine (ceil_at EL V5).mono ?_
        rintro e W10 ⟨rfl, hC⟩
        have hB10 := hB9.trans (hC.mono hz9)
        have hz10 := hB10.size
        clear hC hB9 hz9
        go_wp2
        go_ret
        exact ⟨rfl, hB10⟩
      have EF0 := Lib.hid h1
      have EC : Hid (equalP e c = true) := Lib.hid (by
        rcases hef with h | h
        · rw [h1] at h; cases h
        · exact h)
      clear hna hia st hf hc he hfa hef hq h1
      go_enter Try.func9, Try.ntmps9
      go_wp2_with fail
      refine (rawake_any _).mono ?_
      rintro e W1 ⟨rfl, hB1⟩
      have hz1 := hB1.size
      go_wp2_with fail
      refine (nan_at HA NA).mono ?_
      rintro e w' ⟨rfl, rfl⟩
      go_wp2_with fail
      refine (inf_at HA IA).mono ?_
      rintro e w' ⟨rfl, rfl⟩
      go_wp2_with fail
      refine (floor_at HA HF).mono ?_
      rintro e W2 ⟨rfl, hC⟩
      have hB2 := hB1.trans (hC.mono hz1)
      have hz2 := hB2.size
      clear hC hB1 hz1
      go_wp2_with fail
      refine (ceil_at HA HC).mono ?_
      rintro e W3 ⟨rfl, hC⟩
      have hB3 := hB2.trans (hC.mono hz2)
      have hz3 := hB3.size
      clear hC hB2 hz2
      go_wp2_with fail
      refine (even_at HA HE).mono ?_
      rintro e W4 ⟨rfl, hC⟩
      have hB4 := hB3.trans (hC.mono hz3)
      have hz4 := hB4.size
      clear hC hB3 hz3
      go_wp2_with fail
      refine (less_at HA FL AF).mono ?_
      rintro e w' ⟨rfl, rfl⟩
      go_wp2_with fail
      refine (less_at CL HA CA).mono ?_
      rintro e w' ⟨rfl, rfl⟩
      go_wp2_with fail
      refine (equal_at FL HA FA).mono ?_
      rintro e w' ⟨rfl, rfl⟩
      go_wp2_with fail
      refine (equal_at CL HA CA2).mono ?_
      rintro e w' ⟨rfl, rfl⟩
      go_wp2_with fail
      refine (equal_at EL FL EF0).mono ?_
      rintro e w' ⟨rfl, rfl⟩
      go_wp2_with fail
      refine (equal_at EL CL EC).mono ?_
      rintro e w' ⟨rfl, rfl⟩
      go_wp2_with fail
      refine (floor_at FL V0).mono ?_
      rintro e W5 ⟨rfl, hC⟩
      have hB5 := hB4.trans (hC.mono hz4)
      have hz5 := hB5.size
      clear hC hB4 hz4
      go_wp2_with fail
      refine (ceil_at FL V1).mono ?_
      rintro e W6 ⟨rfl, hC⟩
      have hB6 := hB5.trans (hC.mono hz5)
      have hz6 := hB6.size
      clear hC hB5 hz5
      go_wp2_with fail
      refine (even_at FL V2).mono ?_
      rintro e W7 ⟨rfl, hC⟩
      have hB7 := hB6.trans (hC.mono hz6)
      have hz7 := hB7.size
      clear hC hB6 hz6
      go_wp2_with fail
      refine (floor_at CL V3).mono ?_
      rintro e W8 ⟨rfl, hC⟩
      have hB8 := hB7.trans (hC.mono hz7)
      have hz8 := hB8.size
      clear hC hB7 hz7
      go_wp2_with fail
      refine (even_at CL V4).mono ?_
      rintro e W9 ⟨rfl, hC⟩
      have hB9 := hB8.trans (hC.mono hz8)
      have hz9 := hB9.size
      clear hC hB8 hz8
      go_wp2_with fail
      refine (ceil_at EL V5).mono ?_
      rintro e W10 ⟨rfl, hC⟩
      have hB10 := hB9.trans (hC.mono hz9)
      have hz10 := hB10.size
      clear hC hB9 hz9
      go_wp2
      go_ret
      exact ⟨rfl, hB10⟩
  · have d1 : decide (-16777216 ≤ n) = false := decide_eq_false h1
    clear h1
    cases hna : nanP a
    case true =>
      have NA := Lib.hid hna
      clear hna
      go_enter Try.func9, Try.ntmps9
      go_wp2_with fail
      refine (rawake_any _).mono ?_
      rintro e W1 ⟨rfl, hB1⟩
      have hz1 := hB1.size
      go_wp2_with fail
      refine (nan_at HA NA).mono ?_
      rintro e w' ⟨rfl, rfl⟩
      go_wp2
      go_ret
      exact ⟨rfl, hB1⟩
    cases hia : infP a
    case true =>
      have NA := Lib.hid hna
      have IA := Lib.hid hia
      clear hna hia
      go_enter Try.func9, Try.ntmps9
      go_wp2_with fail
      refine (rawake_any _).mono ?_
      rintro e W1 ⟨rfl, hB1⟩
      have hz1 := hB1.size
      go_wp2_with fail
      refine (nan_at HA NA).mono ?_
      rintro e w' ⟨rfl, rfl⟩
      go_wp2_with fail
      refine (inf_at HA IA).mono ?_
      rintro e w' ⟨rfl, rfl⟩
      go_wp2
      go_ret
      exact ⟨rfl, hB1⟩
    have st := stand_any HA.out hna hia
    have NA := Lib.hid hna
    have IA := Lib.hid hia
    obtain ⟨f, hf⟩ : ∃ x, wholeP 0 a = x := ⟨_, rfl⟩
    obtain ⟨c, hc⟩ : ∃ x, wholeP 1 a = x := ⟨_, rfl⟩
    obtain ⟨e, he⟩ : ∃ x, wholeP 2 a = x := ⟨_, rfl⟩
    rw [hf, hc, he] at st
    have HF := Lib.hid hf
    have HC := Lib.hid hc
    have HE := Lib.hid he
    have FL := Lib.hid st.fl
    have CL := Lib.hid st.cl
    have EL := Lib.hid st.el
    have AF := Lib.hid st.af
    have CA := Lib.hid st.ca
    have V0 := Lib.hid st.w0
    have V1 := Lib.hid st.w1
    have V2 := Lib.hid st.w2
    have V3 := Lib.hid st.w3
    have V4 := Lib.hid st.w4
    have V5 := Lib.hid st.w5
    have hfa := st.fa
    have hef := st.ef
    obtain ⟨q, hq⟩ : ∃ x, equalP c a = x := ⟨_, rfl⟩
    rw [hq] at hfa
    have FA := Lib.hid hfa
    have CA2 := Lib.hid hq
    have hqq : (q != q) = false := by simp
    have hqq2 : (!(q == q)) = false := hqq
    cases h1 : equalP e f
    case true =>
      have EF := Lib.hid h1
      clear hna hia st hf hc he hfa hef hq h1
      go_enter Try.func9, Try.ntmps9
      go_wp2_with fail
      refine (rawake_any _).mono ?_
      rintro e W1 ⟨rfl, hB1⟩
      have hz1 := hB1.size
      go_wp2_with fail
      refine (nan_at HA NA).mono ?_
      rintro e w' ⟨rfl, rfl⟩
      go_wp2_with fail
      refine (inf_at HA IA).mono ?_
      rintro e w' ⟨rfl, rfl⟩
      go_wp2_with fail
      refine (floor_at HA HF).mono ?_
      rintro e W2 ⟨rfl, hC⟩
      have hB2 := hB1.trans (hC.mono hz1)
      have hz2 := hB2.size
      clear hC hB1 hz1
      go_wp2_with fail
      refine (ceil_at HA HC).mono ?_
      rintro e W3 ⟨rfl, hC⟩
      have hB3 := hB2.trans (hC.mono hz2)
      have hz3 := hB3.size
      clear hC hB2 hz2
      go_wp2_with fail
      refine (even_at HA HE).mono ?_
      rintro e W4 ⟨rfl, hC⟩
      have hB4 := hB3.trans (hC.mono hz3)
      have hz4 := hB4.size
      clear hC hB3 hz3
      go_wp2_with fail
      refine (less_at HA FL AF).mono ?_
      rintro e w' ⟨rfl, rfl⟩
      go_wp2_with fail
      refine (less_at CL HA CA).mono ?_
      rintro e w' ⟨rfl, rfl⟩
      go_wp2_with fail
      refine (equal_at FL HA FA).mono ?_
      rintro e w' ⟨rfl, rfl⟩
      go_wp2_with fail
      refine (equal_at CL HA CA2).mono ?_
      rintro e w' ⟨rfl, rfl⟩
      go_wp2_with fail
      refine (equal_at EL FL EF).mono ?_
      rintro e w' ⟨rfl, rfl⟩
      go_wp2_with fail
      refine (floor_at FL V0).mono ?_
      rintro e W5 ⟨rfl, hC⟩
      have hB5 := hB4.trans (hC.mono hz4)
      have hz5 := hB5.size
      clear hC hB4 hz4
      go_wp2_with fail
      refine (ceil_at FL V1).mono ?_
      rintro e W6 ⟨rfl, hC⟩
      have hB6 := hB5.trans (hC.mono hz5)
      have hz6 := hB6.size
      clear hC hB5 hz5
      go_wp2_with fail
      refine (even_at FL V2).mono ?_
      rintro e W7 ⟨rfl, hC⟩
      have hB7 := hB6.trans (hC.mono hz6)
      have hz7 := hB7.size
      clear hC hB6 hz6
      go_wp2_with fail
      refine (floor_at CL V3).mono ?_
      rintro e W8 ⟨rfl, hC⟩
      have hB8 := hB7.trans (hC.mono hz7)
      have hz8 := hB8.size
      clear hC hB7 hz7
      go_wp2_with fail
      refine (even_at CL V4).mono ?_
      rintro e W9 ⟨rfl, hC⟩
      have hB9 := hB8.trans (hC.mono hz8)
      have hz9 := hB9.size
      clear hC hB8 hz8
      go_wp2_with fail
      refine (ceil_at EL V5).mono ?_
      rintro e W10 ⟨rfl, hC⟩
      have hB10 := hB9.trans (hC.mono hz9)
      have hz10 := hB10.size
      clear hC hB9 hz9
      go_wp2
      go_ret
      exact ⟨rfl, hB10⟩
    have EF0 := Lib.hid h1
    have EC : Hid (equalP e c = true) := Lib.hid (by
      rcases hef with h | h
      · rw [h1] at h; cases h
      · exact h)
    clear hna hia st hf hc he hfa hef hq h1
    go_enter Try.func9, Try.ntmps9
    go_wp2_with fail
    refine (rawake_any _).mono ?_
    rintro e W1 ⟨rfl, hB1⟩
    have hz1 := hB1.size
    go_wp2_with fail
    refine (nan_at HA NA).mono ?_
    rintro e w' ⟨rfl, rfl⟩
    go_wp2_with fail
    refine (inf_at HA IA).mono ?_
    rintro e w' ⟨rfl, rfl⟩
    go_wp2_with fail
    refine (floor_at HA HF).mono ?_
    rintro e W2 ⟨rfl, hC⟩
    have hB2 := hB1.trans (hC.mono hz1)
    have hz2 := hB2.size
    clear hC hB1 hz1
    go_wp2_with fail
    refine (ceil_at HA HC).mono ?_
    rintro e W3 ⟨rfl, hC⟩
    have hB3 := hB2.trans (hC.mono hz2)
    have hz3 := hB3.size
    clear hC hB2 hz2
    go_wp2_with fail
    refine (even_at HA HE).mono ?_
    rintro e W4 ⟨rfl, hC⟩
    have hB4 := hB3.trans (hC.mono hz3)
    have hz4 := hB4.size
    clear hC hB3 hz3
    go_wp2_with fail
    refine (less_at HA FL AF).mono ?_
    rintro e w' ⟨rfl, rfl⟩
    go_wp2_with fail
    refine (less_at CL HA CA).mono ?_
    rintro e w' ⟨rfl, rfl⟩
    go_wp2_with fail
    refine (equal_at FL HA FA).mono ?_
    rintro e w' ⟨rfl, rfl⟩
    go_wp2_with fail
    refine (equal_at CL HA CA2).mono ?_
    rintro e w' ⟨rfl, rfl⟩
    go_wp2_with fail
    refine (equal_at EL FL EF0).mono ?_
    rintro e w' ⟨rfl, rfl⟩
    go_wp2_with fail
    refine (equal_at EL CL EC).mono ?_
    rintro e w' ⟨rfl, rfl⟩
    go_wp2_with fail
    refine (floor_at FL V0).mono ?_
    rintro e W5 ⟨rfl, hC⟩
    have hB5 := hB4.trans (hC.mono hz4)
    have hz5 := hB5.size
    clear hC hB4 hz4
    go_wp2_with fail
    refine (ceil_at FL V1).mono ?_
    rintro e W6 ⟨rfl, hC⟩
    have hB6 := hB5.trans (hC.mono hz5)
    have hz6 := hB6.size
    clear hC hB5 hz5
    go_wp2_with fail
    refine (even_at FL V2).mono ?_
    rintro e W7 ⟨rfl, hC⟩
    have hB7 := hB6.trans (hC.mono hz6)
    have hz7 := hB7.size
    clear hC hB6 hz6
    go_wp2_with fail
    refine (floor_at CL V3).mono ?_
    rintro e W8 ⟨rfl, hC⟩
    have hB8 := hB7.trans (hC.mono hz7)
    have hz8 := hB8.size
    clear hC hB7 hz7
    go_wp2_with fail
    refine (even_at CL V4).mono ?_
    rintro e W9 ⟨rfl, hC⟩
    have hB9 := hB8.trans (hC.mono hz8)
    have hz9 := hB9.size
    clear hC hB8 hz8
    go_wp2_with fail
    refine (ceil_at EL V5).mono ?_
    rintro e W10 ⟨rfl, hC⟩
    have hB10 := hB9.trans (hC.mono hz9)
    have hz10 := hB10.size
    clear hC hB9 hz9
    go_wp2
    go_ret
    exact ⟨rfl, hB10⟩

/-! ### THE ROW's STEP -/
set_option maxRecDepth 100000 in
theorem lifted (os : Os) (started : os.Started) (H : Type) (enc : TypeId × Value → H) :
    ReturnsInHanded {} Try.checked os 9 .any (Rows.roundBackSpec.pre6 enc Try.prog Try.f9 Rows.roundBackRow.domain false) (Rows.roundBackSpec.post enc Try.prog Try.f9 false true false false) := by
  refine returnsInHanded_of_change_sized (C := Try.checked) own started (by kernel_rfl) Try.func9
    (ChangeSpec.witness6 (enc := enc) (C := Try.checked) false ⟨#[], #[.int .i64 0, .int .u32 0], []⟩ 8 (by kernel_rfl) (by kernel_rfl) (by kernel_rfl) (by kernel_rfl)) ?_
  intro W base args ds gs before hval0 hW hcnd hsz0 _
  have hval : ∀ (j : Nat) t v, Try.f9.params[j]? = some t → args[j]? = some v → Value.okWide Try.prog W .any base t v := hval0
  have hW' := hW
  obtain ⟨p, q, hA0, hV, rfl, hfz, hnd⟩ := hW
  have hA : DataW.TrodAll enc Try.prog W 0 (fun _ => true) true Try.f9.params.toList args.toList ds p := hA0
  have hsz : (DataW.weightsEach Try.prog (Try.f9.params.toList ++ Rows.roundBackSpec.plain.varTypes Try.prog) (ds ++ gs)).all (· ≤ reachBytes) = true := hsz0
  rw [Try.params9] at hA hval hsz
  obtain ⟨v0, vs0, d0, ds0, p0, q0, hargs, rfl, rfl, h0, r0⟩ := trodAll_cons hA
  obtain ⟨v1, vs1, d1, ds1, p1, q1, rfl, rfl, rfl, h1, r1⟩ := trodAll_cons r0
  obtain ⟨rfl, rfl, rfl⟩ := trodAll_nil r1
  obtain rfl : args = #[v0, v1] := by cases args; simp_all
  obtain ⟨rfl, rfl⟩ := trodVars_none hV
  clear hA0 hval0 hsz0
  obtain ⟨a0, rfl, rfl, rfl, w0⟩ := open_int Try.underlying2 (hval 0 2 v0 rfl rfl) h0
  obtain ⟨a1, rfl, rfl, rfl, w1⟩ := open_int Try.underlying22 (hval 1 22 v1 rfl rfl) h1
  refine (walk W a0 w0 a1 w1).mono fun e W' ⟨he, bel⟩ => ?_
  subst he
  exact ⟨_, rfl, _, _, _, [], _, [], hW', trodAll_mk1 (shut_bool Try.underlying4 _), (trodAll_cons_mk (shut_int Try.underlying2 w0) (trodAll_cons_mk (shut_int Try.underlying22 w1) trodAll_mk0)), rfl, bel.frame _, fun h => by cases h⟩

theorem over : Rows.roundBackRow.holds Try.pinned (OpenSpec.ofChange Rows.roundBackSpec) :=
  OpenClaim.holds_of_wide 9 Try.f9 rfl rfl rfl rfl rfl rfl rfl ⟨rfl, rfl, rfl, rfl, rfl⟩ rfl rfl rfl rfl rfl (by kernel_rfl) Try.func9 (by kernel_rfl)
    (of_decide_eq_true (by kernel_rfl)) (by unfold Func.isWrapper; first | (rw [if_pos (by decide +kernel)]; kernel_rfl) | (rw [if_neg (by decide +kernel)]; exact ⟨rfl, rfl⟩))
    (fun os started H enc _ => lifted os started H enc)

theorem proved : Rows.RoundBackSaid := over
#print axioms proved
end Go.Proofs.Ytanccobllehnaaa.roundBack
