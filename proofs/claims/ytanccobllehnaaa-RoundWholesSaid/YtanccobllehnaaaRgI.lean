/- The document's FromIntBy and FromInt. -/
import Derived.Test.YtanccobllehnaaaRgS
namespace Go.Proofs.Ytanccobllehnaaa
open Go.RowKit

theorem from_law {way : Int} {neg : Bool} {m : Nat} (hm : m < 18446744073709551616) : roundP way neg 0 m false = if m = 0 then sgn neg else rnd way neg (two 149 * m) 1 := by
  by_cases h0 : m = 0
  · subst h0
    rw [if_pos rfl]
    unfold roundP
    rw [if_pos ⟨rfl, rfl⟩]
  · rw [if_neg h0]
    refine round_rnd (by omega) hm (by decide) ?_
    unfold RV
    simp only [Nat.mul_one, Bool.false_eq_true, if_false]
    rw [show ((0 : Int) + 149).toNat = 149 from rfl, show (-((0 : Int) + 149)).toNat = 0 from rfl, show two 0 = 1 from rfl, Nat.mul_one]
    exact Nat.mul_comm _ _
theorem big_m {m : Nat} (h : m < 18446744073709551616) : m < two 10000 := Nat.lt_of_lt_of_le (show m < two 64 from h) (two_le (by omega))
theorem big_149m {m : Nat} (h : m < 18446744073709551616) : two 149 * m < two 10000 := by
  have h1 : two 149 * m ≤ two 149 * two 64 := Nat.mul_le_mul_left _ (Nat.le_of_lt h)
  rw [← two_add] at h1
  have h2 := two_le (show 149 + 64 + 1 ≤ 10000 by omega)
  have h3 := two_pos (149 + 64)
  rw [two_succ] at h2
  omega
set_option maxRecDepth 100000 in
set_option maxHeartbeats 1600000 in
theorem rfrom_any (way n : Int) (w : World) (h : -9223372036854775808 ≤ n ∧ n ≤ 9223372036854775807) :
    Calls Try.prog 21 #[.int .i64 way, .int .i64 n] w (BR w (fromP way n)) := by
  by_cases hn : n < 0
  · obtain ⟨m, hm⟩ : ∃ m : Nat, n = -(m : Int) := ⟨n.natAbs, by omega⟩
    have hmb : m ≤ 9223372036854775808 := by omega
    have hm1 : 0 < m := by omega
    have HE : Hid (fromP way n = rnd way true (two 149 * m) 1) := Lib.hid (by
      unfold fromP
      rw [decide_eq_true hn, show n.natAbs = m from by omega, from_law (by omega), if_neg (by omega)])
    obtain ⟨c, hc⟩ : ∃ c : Nat, 18446744073709551616 - m = c := ⟨_, rfl⟩
    have hw0 : IntKind.u64.wrap (-(m : Int)) = (c : Int) := by rw [IntKind.wrap_u64]; omega
    obtain ⟨d, hd⟩ : ∃ d : Nat, m = d + 1 := ⟨m - 1, by omega⟩
    have hw1 : -(m : Int) + 1 = -(d : Int) := by omega
    have hw2 : IntKind.u64.wrap (d : Int) = (d : Int) := wrap64_nat (by omega)
    have hw3 : (d : Int) + 1 = (m : Int) := by omega
    have hw4 : IntKind.u64.wrap (m : Int) = (m : Int) := wrap64_nat (by omega)
    have hneg : -(m : Int) < 0 := by omega
    have b0 : ((m : Int) == 0) = false := int_ne (y := 0) (by omega)
    have hd63 : d < 9223372036854775808 := by omega
    have hw5 : wrap64 (-(d : Int)) = -(d : Int) := IntWalk.wrap64_in _ (by omega)
    have hw6 : wrap64 (d : Int) = (d : Int) := IntWalk.wrap64_in _ (by omega)
    have HM : Hid (m < 18446744073709551616) := Lib.hid (by omega)
    subst hm
    clear h hn hmb hc hd hd63
    go_enter Try.func21, Try.ntmps21
    have hB0 := Below.refl w.heap.size w
    have hz0 := hB0.size
    go_wp2_with fail
    refine (of_nv m _ HM).mono ?_
    rintro e' W1 ⟨A1, k1, c1, rfl, v1, hC⟩
    have hB1 := hB0.trans (hC.mono hz0)
    have hz1 := hB1.size
    clear hC hB0 hz0
    go_wp2_with fail
    refine (twice_nv (k := 149) v1 (ten_thirty (big_m HM.out)) (by omega) (Lib.hid rfl)).mono ?_
    rintro e' W2 ⟨A2, k2, c2, rfl, v2, hC⟩
    have hB2 := hB1.trans (hC.mono hz1)
    have hz2 := hB2.size
    have v1 := v1.below hC
    clear hC hB1 hz1
    go_wp2_with fail
    refine (of_nv 1 _ (Lib.hid (by decide))).mono ?_
    rintro e' W3 ⟨A3, k3, c3, rfl, v3, hC⟩
    have hB3 := hB2.trans (hC.mono hz2)
    have hz3 := hB3.size
    have v1 := v1.below hC
    have v2 := v2.below hC
    clear hC hB2 hz2
    go_wp2_with fail
    refine (rounded_any v2 v3 (Lib.hid (big_149m HM.out)) (Lib.hid big_1)).mono ?_
    rintro e' W4 ⟨rfl, hC⟩
    have hB4 := hB3.trans (hC.mono hz3)
    have hz4 := hB4.size
    clear hC hB3 hz3
    go_wp2
    go_ret
    exact ⟨by rw [HE.out]; try rfl, hB4⟩
  · obtain ⟨m, hm⟩ : ∃ m : Nat, n = (m : Int) := ⟨n.natAbs, by omega⟩
    have hw0 : IntKind.u64.wrap (m : Int) = (m : Int) := wrap64_nat (by omega)
    have HM : Hid (m < 18446744073709551616) := Lib.hid (by omega)
    have hneg : ¬ (m : Int) < 0 := by omega
    by_cases h0 : m = 0
    · have HE : Hid (fromP way n = 0) := Lib.hid (by
        unfold fromP
        rw [decide_eq_false hn, show n.natAbs = m from by omega, from_law (by omega), if_pos h0]
        rfl)
      have b0 : ((m : Int) == 0) = true := int_eq (y := 0) h0
      subst hm
      clear h hn h0
      go_enter Try.func21, Try.ntmps21
      have hB0 := Below.refl w.heap.size w
      have hz0 := hB0.size
      go_wp2
      go_ret
      exact ⟨by rw [HE.out]; try rfl, hB0⟩
    · have HE : Hid (fromP way n = rnd way false (two 149 * m) 1) := Lib.hid (by
        unfold fromP
        rw [decide_eq_false hn, show n.natAbs = m from by omega, from_law (by omega), if_neg h0])
      have b0 : ((m : Int) == 0) = false := int_ne (y := 0) h0
      subst hm
      clear h hn h0
      go_enter Try.func21, Try.ntmps21
      have hB0 := Below.refl w.heap.size w
      have hz0 := hB0.size
      go_wp2_with fail
      refine (of_nv m _ HM).mono ?_
      rintro e' W1 ⟨A1, k1, c1, rfl, v1, hC⟩
      have hB1 := hB0.trans (hC.mono hz0)
      have hz1 := hB1.size
      clear hC hB0 hz0
      go_wp2_with fail
      refine (twice_nv (k := 149) v1 (ten_thirty (big_m HM.out)) (by omega) (Lib.hid rfl)).mono ?_
      rintro e' W2 ⟨A2, k2, c2, rfl, v2, hC⟩
      have hB2 := hB1.trans (hC.mono hz1)
      have hz2 := hB2.size
      have v1 := v1.below hC
      clear hC hB1 hz1
      go_wp2_with fail
      refine (of_nv 1 _ (Lib.hid (by decide))).mono ?_
      rintro e' W3 ⟨A3, k3, c3, rfl, v3, hC⟩
      have hB3 := hB2.trans (hC.mono hz2)
      have hz3 := hB3.size
      have v1 := v1.below hC
      have v2 := v2.below hC
      clear hC hB2 hz2
      go_wp2_with fail
      refine (rounded_any v2 v3 (Lib.hid (big_149m HM.out)) (Lib.hid big_1)).mono ?_
      rintro e' W4 ⟨rfl, hC⟩
      have hB4 := hB3.trans (hC.mono hz3)
      have hz4 := hB4.size
      clear hC hB3 hz3
      go_wp2
      go_ret
      exact ⟨by rw [HE.out]; try rfl, hB4⟩
theorem rfrom0_any (n : Int) (w : World) (h : -9223372036854775808 ≤ n ∧ n ≤ 9223372036854775807) :
    Calls Try.prog 23 #[.int .i64 n] w (BR w (fromP 0 n)) := by
  go_enter Try.func23, Try.ntmps23
  go_wp2_with fail
  refine (rfrom_any 0 n _ h).mono ?_
  rintro e w' ⟨rfl, hb⟩
  go_wp2
  go_ret
  exact ⟨rfl, hb⟩
end Go.Proofs.Ytanccobllehnaaa
