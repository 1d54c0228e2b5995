/- The document's Whole, of the three kinds. -/
import Derived.Test.YtanccobllehnaaaRgC
import Derived.Test.YtanccobllehnaaaRdL
namespace Go.Proofs.Ytanccobllehnaaa
open Go.RowKit

theorem whole_fin {neg : Bool} {m : Nat} (hm : m < 18446744073709551616) : roundP 0 neg 0 m false = rnd 0 neg (two 149 * m) 1 := by
  rw [from_law hm]
  by_cases h0 : m = 0
  · rw [if_pos h0, h0, Nat.mul_zero, rnd_zero 0 neg (by decide)]
  · rw [if_neg h0]
theorem big_24 {m : Nat} (h : m ≤ 67108864) : m < two 10000 := Nat.lt_of_le_of_lt h (Nat.lt_of_lt_of_le (show 67108864 < two 64 by decide) (two_le (by omega)))
theorem big_149n {m : Nat} (h : m ≤ 67108864) : two 149 * m < two 10000 := by
  have h1 : two 149 * m ≤ two 149 * two 64 := Nat.mul_le_mul_left _ (Nat.le_trans h (by decide))
  rw [← two_add] at h1
  have h2 := two_le (show 149 + 64 + 1 ≤ 10000 by omega)
  have h3 := two_pos (149 + 64)
  rw [two_succ] at h2
  omega
/-- what is cut off, and how it stands to a half -/
theorem whole_parts {a d : Nat} (hd : oE a = -(d : Int)) (h1 : 1 ≤ d) (h149 : d ≤ 149) :
    cutA a = oS a / two d ∧ (two 149 * cutA a = amt (absP a) ↔ oS a % two d = 0) ∧ (two 149 * (2 * cutA a + 1) < two 1 * amt (absP a) ↔ two (d - 1) < oS a % two d) ∧ (two 1 * amt (absP a) = two 149 * (2 * cutA a + 1) ↔ oS a % two d = two (d - 1)) := by
  have hc : cutA a = oS a / two d := by
    unfold cutA
    rw [hd, if_neg (by omega)]
    congr 2
    omega
  have hamt : amt (absP a) = oS a * two (149 - d) := by
    rw [← ofin_amt, hd]
    congr 2
    omega
  have h149e : two 149 = two d * two (149 - d) := by rw [← two_add]; congr 1; omega
  have hdd : two d = 2 * two (d - 1) := by rw [← two_succ]; congr 1; omega
  have hdm := Nat.div_add_mod (oS a) (two d)
  have hT := two_pos (149 - d)
  rw [hc, hamt]
  obtain ⟨n, hn⟩ : ∃ n, oS a / two d = n := ⟨_, rfl⟩
  obtain ⟨l, hl⟩ : ∃ n, oS a % two d = n := ⟨_, rfl⟩
  rw [hn, hl] at hdm
  rw [hn, hl]
  rw [show two 1 = 2 from rfl]
  have e1 : two 149 * n = two d * n * two (149 - d) := by rw [h149e, Nat.mul_right_comm]
  have e2 : two 149 * (2 * n + 1) = (2 * (two d * n) + two d) * two (149 - d) := by
    rw [h149e, Nat.mul_right_comm, Nat.mul_add, Nat.mul_one, Nat.mul_left_comm]
  have e3 : 2 * (oS a * two (149 - d)) = 2 * oS a * two (149 - d) := by rw [Nat.mul_assoc]
  rw [e1, e2, e3, ← hdm]
  generalize two d * n = x at *
  generalize two (149 - d) = T at *
  generalize two (d - 1) = H at *
  refine ⟨rfl, ?_, ?_, ?_⟩
  · constructor
    · intro h; have := Nat.eq_of_mul_eq_mul_right hT h; omega
    · intro h; rw [h, Nat.add_zero]
  · constructor
    · intro h; have := Nat.lt_of_mul_lt_mul_right h; omega
    · intro h; exact Nat.mul_lt_mul_of_pos_right (by omega) hT
  · constructor
    · intro h; have := Nat.eq_of_mul_eq_mul_right hT h; omega
    · intro h; congr 1; omega
theorem whole_zero {a : Nat} (h : oE a = 0) : two 149 * cutA a = amt (absP a) := by
  unfold cutA
  rw [← ofin_amt, h, if_pos (Int.le_refl _)]
  show two 149 * (oS a * 1) = oS a * two 149
  rw [Nat.mul_one, Nat.mul_comm]
theorem half_cmp {l d p q : Nat} {v : Int} {nb od : Bool} (h1 : q < p ↔ two (d - 1) < l) (h2 : p = q ↔ l = two (d - 1)) (hv : cmpV p q = v) : upP 2 nb (halfP l d) od = (decide (0 < v) || (decide (v = 0) && od)) := by
  have e : halfP l d = v := by
    rw [← hv]
    unfold halfP cmpV
    by_cases c1 : two (d - 1) < l
    · rw [if_pos c1, if_neg (by have := h1.2 c1; omega), if_pos (h1.2 c1)]
    · have n1 : ¬ q < p := fun e => c1 (h1.1 e)
      by_cases c2 : l = two (d - 1)
      · have := h2.2 c2
        rw [if_neg c1, if_pos c2, if_neg (by omega), if_neg n1]
      · have n2 : ¬ p = q := fun e => c2 (h2.1 e)
        rw [if_neg c1, if_neg c2, if_pos (by omega)]
  rw [e]
  rfl
set_option maxRecDepth 100000 in
set_option maxHeartbeats 1600000 in
theorem rwhole0_any (a : Nat) (w : World) (h : Hid (a < 4294967296)) :
    Calls Try.prog 29 #[.int .i64 0, .int .u32 (a : Int)] w (BR w (wholeP 0 a)) := by
  obtain ⟨x, hx⟩ : ∃ x, absP a = x := ⟨_, rfl⟩
  obtain ⟨sa, hsa⟩ : ∃ s, decide (2147483648 ≤ a) = s := ⟨_, rfl⟩
  have HX := Lib.hid hx
  have SA := Lib.hid hsa
  cases hna : nanP a
  case true =>
    have NA := Lib.hid hna
    have HE : Hid (wholeP 0 a = 2143289344) := Lib.hid (by unfold wholeP; rw [if_pos hna])
    clear hna hx hsa
    go_enter Try.func29, Try.ntmps29
    have hB0 := Below.refl w.heap.size w
    have hz0 := hB0.size
    go_wp2_with fail
    refine (rnone_at h NA).mono ?_
    rintro e' w' ⟨rfl, rfl⟩
    go_wp2
    go_ret
    exact ⟨by rw [HE.out]; try rfl, hB0⟩
  have NA := Lib.hid hna
  have hno : ¬ nanP a = true := by rw [hna]; decide
  have hex : a / 8388608 % 256 = x / 8388608 := by rw [← hx]; unfold absP; omega
  by_cases hbig : 1266679808 ≤ x
  case pos =>
    have h0e : 0 ≤ oE a := by
      unfold oE
      rw [hex]
      split <;> omega
    have HE : Hid (wholeP 0 a = a) := Lib.hid (by
      unfold wholeP
      rw [if_neg hno, if_pos (.inr (.inl h0e))])
    have bb : decide ((1266679808 : Int) ≤ (x : Int)) = true := decide_eq_true (by omega)
    clear hna hno hx hsa hex hbig h0e
    go_enter Try.func29, Try.ntmps29
    have hB0 := Below.refl w.heap.size w
    have hz0 := hB0.size
    go_wp2_with fail
    refine (rnone_at h NA).mono ?_
    rintro e' w' ⟨rfl, rfl⟩
    go_wp2_with fail
    refine (rabs_at h HX).mono ?_
    rintro e' w' ⟨rfl, rfl⟩
    go_wp2
    go_ret
    exact ⟨by rw [HE.out]; try rfl, hB0⟩
  have bb : decide ((1266679808 : Int) ≤ (x : Int)) = false := decide_eq_false (by omega)
  by_cases hx0 : x = 0
  case pos =>
    have HE : Hid (wholeP 0 a = a) := Lib.hid (by unfold wholeP; rw [if_neg hno, if_pos (.inr (.inr (o_nil.2 (hx.trans hx0))))])
    have b0 : ((x : Int) == 0) = true := int_eq (y := 0) hx0
    clear hna hno hx hsa hex hbig hx0
    go_enter Try.func29, Try.ntmps29
    have hB0 := Below.refl w.heap.size w
    have hz0 := hB0.size
    go_wp2_with fail
    refine (rnone_at h NA).mono ?_
    rintro e' w' ⟨rfl, rfl⟩
    go_wp2_with fail
    refine (rabs_at h HX).mono ?_
    rintro e' w' ⟨rfl, rfl⟩
    go_wp2
    go_ret
    exact ⟨by rw [HE.out]; try rfl, hB0⟩
  have b0 : ((x : Int) == 0) = false := int_ne (y := 0) hx0
  have hoE : oE a ≤ 0 := by
    unfold oE
    rw [hex]
    split <;> omega
  obtain ⟨ob1, ob2, ob3⟩ := o_bounds a
  obtain ⟨N, hN⟩ : ∃ n, cutA a = n := ⟨_, rfl⟩
  have HN := Lib.hid hN
  have HXL : Hid (x < 1266679808) := Lib.hid (by omega)
  have hxl : x ≤ 2139095040 := by omega
  have hs0 : ¬ oS a = 0 := fun e => hx0 (hx.symm.trans (o_nil.1 e))
  have IA : ¬ infP a = true := fun e => by
    have := hx.symm.trans (inf_abs.1 e)
    omega
  have hnn : N ≤ oS a := by
    rw [← hN]
    unfold cutA
    by_cases he : 0 ≤ oE a
    · rw [if_pos he, show (oE a).toNat = 0 from by omega, show two 0 = 1 from rfl, Nat.mul_one]; exact Nat.le_refl _
    · rw [if_neg he]; exact Nat.div_le_self _ _
  have hN24 : N < 16777216 := by omega
  obtain ⟨c, hc⟩ : ∃ c, cmpV (two 149 * N) (amt x) = c := ⟨_, rfl⟩
  have HC := Lib.hid hc
  by_cases hexa : two 149 * N = amt x
  case pos =>
    have HE : Hid (wholeP 0 a = a) := Lib.hid (by
      unfold wholeP
      rw [if_neg hno]
      by_cases he : 0 ≤ oE a
      · rw [if_pos (.inr (.inl he))]
      · rw [if_neg (by simp [IA, hs0]; omega)]
        obtain ⟨d, hd⟩ : ∃ d : Nat, oE a = -(d : Int) := ⟨(-oE a).toNat, by omega⟩
        have hp := whole_parts hd (by omega) (by omega)
        rw [hN, hx] at hp
        rw [hd, show (-(-(d : Int))).toNat = d from by omega, if_pos (hp.2.1.1 hexa)])
    have hc0 : c = 0 := by rw [← hc]; exact cmpV_zero.2 hexa
    subst hc0
    clear hna hno hx hsa hex hbig hx0 hoE ob1 ob2 ob3 hs0 IA hnn hc hexa
    go_enter Try.func29, Try.ntmps29
    have hB0 := Below.refl w.heap.size w
    have hz0 := hB0.size
    go_wp2_with fail
    refine (rnone_at h NA).mono ?_
    rintro e' w' ⟨rfl, rfl⟩
    go_wp2_with fail
    refine (rabs_at h HX).mono ?_
    rintro e' w' ⟨rfl, rfl⟩
    go_wp2_with fail
    refine (rbelow_at SA).mono ?_
    rintro e' w' ⟨rfl, rfl⟩
    go_wp2_with fail
    refine (rcut_any a _ h).mono ?_
    rintro e' w' ⟨-, hc, rfl⟩
    rw [hc (by have h1 := HXL.out; have h2 := HX.out; omega), HN.out]
    clear hc
    go_wp2_with fail
    refine (amount_nv x _ (by omega)).mono ?_
    rintro e' W1 ⟨A1, k1, c1, rfl, v1, hC⟩
    have hB1 := hB0.trans (hC.mono hz0)
    have hz1 := hB1.size
    clear hC hB0 hz0
    go_wp2_with fail
    refine (of_nv N _ (Lib.hid (by omega))).mono ?_
    rintro e' W2 ⟨A2, k2, c2, rfl, v2, hC⟩
    have hB2 := hB1.trans (hC.mono hz1)
    have hz2 := hB2.size
    have v1 := v1.below hC
    clear hC hB1 hz1
    go_wp2_with fail
    refine (twice_nv (k := 149) v2 (ten_thirty (big_24 (by omega))) (by omega) (Lib.hid rfl)).mono ?_
    rintro e' W3 ⟨A3, k3, c3, rfl, v3, hC⟩
    have hB3 := hB2.trans (hC.mono hz2)
    have hz3 := hB3.size
    have v1 := v1.below hC
    have v2 := v2.below hC
    clear hC hB2 hz2
    go_wp2_with fail
    refine (compare_nv v3 v1 (ten_thirty (big_149n (by omega))) (amt_big (by omega)) HC).mono ?_
    rintro e' w' ⟨rfl, nd3, rfl⟩
    have hB4 := below_drewN hB3 nd3
    have hz4 := hB4.size
    have v1 := v1.below (below_drewN (Below.refl _ _) nd3)
    have v2 := v2.below (below_drewN (Below.refl _ _) nd3)
    have v3 := v3.below (below_drewN (Below.refl _ _) nd3)
    clear hB3 hz3
    go_wp2
    go_ret
    exact ⟨by rw [HE.out]; try rfl, hB4⟩
  have bc : (c == 0) = false := by rw [beq_eq_false_iff_ne, ← hc]; exact fun e => hexa (cmpV_zero.1 e)
  have hlt0 : oE a < 0 := by
    rcases Int.lt_or_eq_of_le hoE with h | h
    · exact h
    · have := whole_zero h
      rw [hN, hx] at this
      exact absurd this hexa
  obtain ⟨d, hd⟩ : ∃ d : Nat, oE a = -(d : Int) := ⟨(-oE a).toNat, by omega⟩
  obtain ⟨p1, p2, p3, p4⟩ := whole_parts hd (by omega) (by omega)
  rw [hN, hx] at p2 p3 p4
  rw [hN] at p1
  have hl0 : ¬ oS a % two d = 0 := fun e => hexa (p2.2 e)
  have hE0 : wholeP 0 a = roundP 0 sa 0 (if upP 0 sa (halfP (oS a % two d) d) (decide (N % 2 = 1)) = true then N + 1 else N) false := by
    unfold wholeP
    rw [if_neg hno, if_neg (by simp [IA, hs0]; omega), hd, show (-(-(d : Int))).toNat = d from by omega, if_neg hl0, ← p1, ← hsa]
    rfl
  have hE1 : wholeP 0 a = roundP 0 sa 0 (if (sa) = true then N + 1 else N) false := hE0
  obtain ⟨M, hM⟩ : ∃ x, N + 1 = x := ⟨_, rfl⟩
  have hMc : (N : Int) + 1 = (M : Int) := by omega
  have hM24 : M ≤ 16777216 := by omega
  cases sa
  · have HE : Hid (wholeP 0 a = rnd 0 false (two 149 * N) 1) := Lib.hid (by
      rw [hE1, if_neg (by decide)]
      exact whole_fin (by omega))
    clear hna hno hx hsa hex hbig hx0 hoE ob1 ob2 ob3 hs0 IA hnn hc hexa hlt0 hd p1 p2 p3 p4 hl0 hE0 hE1 hM
    go_enter Try.func29, Try.ntmps29
    have hB0 := Below.refl w.heap.size w
    have hz0 := hB0.size
    go_wp2_with fail
    refine (rnone_at h NA).mono ?_
    rintro e' w' ⟨rfl, rfl⟩
    go_wp2_with fail
    refine (rabs_at h HX).mono ?_
    rintro e' w' ⟨rfl, rfl⟩
    go_wp2_with fail
    refine (rbelow_at SA).mono ?_
    rintro e' w' ⟨rfl, rfl⟩
    go_wp2_with fail
    refine (rcut_any a _ h).mono ?_
    rintro e' w' ⟨-, hc, rfl⟩
    rw [hc (by have h1 := HXL.out; have h2 := HX.out; omega), HN.out]
    clear hc
    go_wp2_with fail
    refine (amount_nv x _ (by omega)).mono ?_
    rintro e' W1 ⟨A1, k1, c1, rfl, v1, hC⟩
    have hB1 := hB0.trans (hC.mono hz0)
    have hz1 := hB1.size
    clear hC hB0 hz0
    go_wp2_with fail
    refine (of_nv N _ (Lib.hid (by omega))).mono ?_
    rintro e' W2 ⟨A2, k2, c2, rfl, v2, hC⟩
    have hB2 := hB1.trans (hC.mono hz1)
    have hz2 := hB2.size
    have v1 := v1.below hC
    clear hC hB1 hz1
    go_wp2_with fail
    refine (twice_nv (k := 149) v2 (ten_thirty (big_24 (by omega))) (by omega) (Lib.hid rfl)).mono ?_
    rintro e' W3 ⟨A3, k3, c3, rfl, v3, hC⟩
    have hB3 := hB2.trans (hC.mono hz2)
    have hz3 := hB3.size
    have v1 := v1.below hC
    have v2 := v2.below hC
    clear hC hB2 hz2
    go_wp2_with fail
    refine (compare_nv v3 v1 (ten_thirty (big_149n (by omega))) (amt_big (by omega)) HC).mono ?_
    rintro e' w' ⟨rfl, nd3, rfl⟩
    have hB4 := below_drewN hB3 nd3
    have hz4 := hB4.size
    have v1 := v1.below (below_drewN (Below.refl _ _) nd3)
    have v2 := v2.below (below_drewN (Below.refl _ _) nd3)
    have v3 := v3.below (below_drewN (Below.refl _ _) nd3)
    clear hB3 hz3
    go_wp2_with fail
    refine (of_nv N _ (Lib.hid (by omega))).mono ?_
    rintro e' W5 ⟨A5, k5, c5, rfl, v4, hC⟩
    have hB5 := hB4.trans (hC.mono hz4)
    have hz5 := hB5.size
    have v1 := v1.below hC
    have v2 := v2.below hC
    have v3 := v3.below hC
    clear hC hB4 hz4
    go_wp2_with fail
    refine (twice_nv (k := 149) v4 (ten_thirty (big_24 (by omega))) (by omega) (Lib.hid rfl)).mono ?_
    rintro e' W6 ⟨A6, k6, c6, rfl, v5, hC⟩
    have hB6 := hB5.trans (hC.mono hz5)
    have hz6 := hB6.size
    have v1 := v1.below hC
    have v2 := v2.below hC
    have v3 := v3.below hC
    have v4 := v4.below hC
    clear hC hB5 hz5
    go_wp2_with fail
    refine (of_nv 1 _ (Lib.hid (by decide))).mono ?_
    rintro e' W7 ⟨A7, k7, c7, rfl, v6, hC⟩
    have hB7 := hB6.trans (hC.mono hz6)
    have hz7 := hB7.size
    have v1 := v1.below hC
    have v2 := v2.below hC
    have v3 := v3.below hC
    have v4 := v4.below hC
    have v5 := v5.below hC
    clear hC hB6 hz6
    go_wp2_with fail
    refine (rounded_any v5 v6 (Lib.hid (big_149n (by omega))) (Lib.hid big_1)).mono ?_
    rintro e' W8 ⟨rfl, hC⟩
    have hB8 := hB7.trans (hC.mono hz7)
    have hz8 := hB8.size
    clear hC hB7 hz7
    go_wp2
    go_ret
    exact ⟨by rw [HE.out]; try rfl, hB8⟩
  · have HE : Hid (wholeP 0 a = rnd 0 true (two 149 * M) 1) := Lib.hid (by
      rw [hE1, if_pos (by decide), hM]
      exact whole_fin (by omega))
    clear hna hno hx hsa hex hbig hx0 hoE ob1 ob2 ob3 hs0 IA hnn hc hexa hlt0 hd p1 p2 p3 p4 hl0 hE0 hE1 hM
    go_enter Try.func29, Try.ntmps29
    have hB0 := Below.refl w.heap.size w
    have hz0 := hB0.size
    go_wp2_with fail
    refine (rnone_at h NA).mono ?_
    rintro e' w' ⟨rfl, rfl⟩
    go_wp2_with fail
    refine (rabs_at h HX).mono ?_
    rintro e' w' ⟨rfl, rfl⟩
    go_wp2_with fail
    refine (rbelow_at SA).mono ?_
    rintro e' w' ⟨rfl, rfl⟩
    go_wp2_with fail
    refine (rcut_any a _ h).mono ?_
    rintro e' w' ⟨-, hc, rfl⟩
    rw [hc (by have h1 := HXL.out; have h2 := HX.out; omega), HN.out]
    clear hc
    go_wp2_with fail
    refine (amount_nv x _ (by omega)).mono ?_
    rintro e' W1 ⟨A1, k1, c1, rfl, v1, hC⟩
    have hB1 := hB0.trans (hC.mono hz0)
    have hz1 := hB1.size
    clear hC hB0 hz0
    go_wp2_with fail
    refine (of_nv N _ (Lib.hid (by omega))).mono ?_
    rintro e' W2 ⟨A2, k2, c2, rfl, v2, hC⟩
    have hB2 := hB1.trans (hC.mono hz1)
    have hz2 := hB2.size
    have v1 := v1.below hC
    clear hC hB1 hz1
    go_wp2_with fail
    refine (twice_nv (k := 149) v2 (ten_thirty (big_24 (by omega))) (by omega) (Lib.hid rfl)).mono ?_
    rintro e' W3 ⟨A3, k3, c3, rfl, v3, hC⟩
    have hB3 := hB2.trans (hC.mono hz2)
    have hz3 := hB3.size
    have v1 := v1.below hC
    have v2 := v2.below hC
    clear hC hB2 hz2
    go_wp2_with fail
    refine (compare_nv v3 v1 (ten_thirty (big_149n (by omega))) (amt_big (by omega)) HC).mono ?_
    rintro e' w' ⟨rfl, nd3, rfl⟩
    have hB4 := below_drewN hB3 nd3
    have hz4 := hB4.size
    have v1 := v1.below (below_drewN (Below.refl _ _) nd3)
    have v2 := v2.below (below_drewN (Below.refl _ _) nd3)
    have v3 := v3.below (below_drewN (Below.refl _ _) nd3)
    clear hB3 hz3
    go_wp2_with fail
    refine (of_nv M _ (Lib.hid (by omega))).mono ?_
    rintro e' W5 ⟨A5, k5, c5, rfl, v4, hC⟩
    have hB5 := hB4.trans (hC.mono hz4)
    have hz5 := hB5.size
    have v1 := v1.below hC
    have v2 := v2.below hC
    have v3 := v3.below hC
    clear hC hB4 hz4
    go_wp2_with fail
    refine (twice_nv (k := 149) v4 (ten_thirty (big_24 (by omega))) (by omega) (Lib.hid rfl)).mono ?_
    rintro e' W6 ⟨A6, k6, c6, rfl, v5, hC⟩
    have hB6 := hB5.trans (hC.mono hz5)
    have hz6 := hB6.size
    have v1 := v1.below hC
    have v2 := v2.below hC
    have v3 := v3.below hC
    have v4 := v4.below hC
    clear hC hB5 hz5
    go_wp2_with fail
    refine (of_nv 1 _ (Lib.hid (by decide))).mono ?_
    rintro e' W7 ⟨A7, k7, c7, rfl, v6, hC⟩
    have hB7 := hB6.trans (hC.mono hz6)
    have hz7 := hB7.size
    have v1 := v1.below hC
    have v2 := v2.below hC
    have v3 := v3.below hC
    have v4 := v4.below hC
    have v5 := v5.below hC
    clear hC hB6 hz6
    go_wp2_with fail
    refine (rounded_any v5 v6 (Lib.hid (big_149n (by omega))) (Lib.hid big_1)).mono ?_
    rintro e' W8 ⟨rfl, hC⟩
    have hB8 := hB7.trans (hC.mono hz7)
    have hz8 := hB8.size
    clear hC hB7 hz7
    go_wp2
    go_ret
    exact ⟨by rw [HE.out]; try rfl, hB8⟩
set_option maxRecDepth 100000 in
set_option maxHeartbeats 1600000 in
theorem rwhole1_any (a : Nat) (w : World) (h : Hid (a < 4294967296)) :
    Calls Try.prog 29 #[.int .i64 1, .int .u32 (a : Int)] w (BR w (wholeP 1 a)) := by
  obtain ⟨x, hx⟩ : ∃ x, absP a = x := ⟨_, rfl⟩
  obtain ⟨sa, hsa⟩ : ∃ s, decide (2147483648 ≤ a) = s := ⟨_, rfl⟩
  have HX := Lib.hid hx
  have SA := Lib.hid hsa
  cases hna : nanP a
  case true =>
    have NA := Lib.hid hna
    have HE : Hid (wholeP 1 a = 2143289344) := Lib.hid (by unfold wholeP; rw [if_pos hna])
    clear hna hx hsa
    go_enter Try.func29, Try.ntmps29
    have hB0 := Below.refl w.heap.size w
    have hz0 := hB0.size
    go_wp2_with fail
    refine (rnone_at h NA).mono ?_
    rintro e' w' ⟨rfl, rfl⟩
    go_wp2
    go_ret
    exact ⟨by rw [HE.out]; try rfl, hB0⟩
  have NA := Lib.hid hna
  have hno : ¬ nanP a = true := by rw [hna]; decide
  have hex : a / 8388608 % 256 = x / 8388608 := by rw [← hx]; unfold absP; omega
  by_cases hbig : 1266679808 ≤ x
  case pos =>
    have h0e : 0 ≤ oE a := by
      unfold oE
      rw [hex]
      split <;> omega
    have HE : Hid (wholeP 1 a = a) := Lib.hid (by
      unfold wholeP
      rw [if_neg hno, if_pos (.inr (.inl h0e))])
    have bb : decide ((1266679808 : Int) ≤ (x : Int)) = true := decide_eq_true (by omega)
    clear hna hno hx hsa hex hbig h0e
    go_enter Try.func29, Try.ntmps29
    have hB0 := Below.refl w.heap.size w
    have hz0 := hB0.size
    go_wp2_with fail
    refine (rnone_at h NA).mono ?_
    rintro e' w' ⟨rfl, rfl⟩
    go_wp2_with fail
    refine (rabs_at h HX).mono ?_
    rintro e' w' ⟨rfl, rfl⟩
    go_wp2
    go_ret
    exact ⟨by rw [HE.out]; try rfl, hB0⟩
  have bb : decide ((1266679808 : Int) ≤ (x : Int)) = false := decide_eq_false (by omega)
  by_cases hx0 : x = 0
  case pos =>
    have HE : Hid (wholeP 1 a = a) := Lib.hid (by unfold wholeP; rw [if_neg hno, if_pos (.inr (.inr (o_nil.2 (hx.trans hx0))))])
    have b0 : ((x : Int) == 0) = true := int_eq (y := 0) hx0
    clear hna hno hx hsa hex hbig hx0
    go_enter Try.func29, Try.ntmps29
    have hB0 := Below.refl w.heap.size w
    have hz0 := hB0.size
    go_wp2_with fail
    refine (rnone_at h NA).mono ?_
    rintro e' w' ⟨rfl, rfl⟩
    go_wp2_with fail
    refine (rabs_at h HX).mono ?_
    rintro e' w' ⟨rfl, rfl⟩
    go_wp2
    go_ret
    exact ⟨by rw [HE.out]; try rfl, hB0⟩
  have b0 : ((x : Int) == 0) = false := int_ne (y := 0) hx0
  have hoE : oE a ≤ 0 := by
    unfold oE
    rw [hex]
    split <;> omega
  obtain ⟨ob1, ob2, ob3⟩ := o_bounds a
  obtain ⟨N, hN⟩ : ∃ n, cutA a = n := ⟨_, rfl⟩
  have HN := Lib.hid hN
  have HXL : Hid (x < 1266679808) := Lib.hid (by omega)
  have hxl : x ≤ 2139095040 := by omega
  have hs0 : ¬ oS a = 0 := fun e => hx0 (hx.symm.trans (o_nil.1 e))
  have IA : ¬ infP a = true := fun e => by
    have := hx.symm.trans (inf_abs.1 e)
    omega
  have hnn : N ≤ oS a := by
    rw [← hN]
    unfold cutA
    by_cases he : 0 ≤ oE a
    · rw [if_pos he, show (oE a).toNat = 0 from by omega, show two 0 = 1 from rfl, Nat.mul_one]; exact Nat.le_refl _
    · rw [if_neg he]; exact Nat.div_le_self _ _
  have hN24 : N < 16777216 := by omega
  obtain ⟨c, hc⟩ : ∃ c, cmpV (two 149 * N) (amt x) = c := ⟨_, rfl⟩
  have HC := Lib.hid hc
  by_cases hexa : two 149 * N = amt x
  case pos =>
    have HE : Hid (wholeP 1 a = a) := Lib.hid (by
      unfold wholeP
      rw [if_neg hno]
      by_cases he : 0 ≤ oE a
      · rw [if_pos (.inr (.inl he))]
      · rw [if_neg (by simp [IA, hs0]; omega)]
        obtain ⟨d, hd⟩ : ∃ d : Nat, oE a = -(d : Int) := ⟨(-oE a).toNat, by omega⟩
        have hp := whole_parts hd (by omega) (by omega)
        rw [hN, hx] at hp
        rw [hd, show (-(-(d : Int))).toNat = d from by omega, if_pos (hp.2.1.1 hexa)])
    have hc0 : c = 0 := by rw [← hc]; exact cmpV_zero.2 hexa
    subst hc0
    clear hna hno hx hsa hex hbig hx0 hoE ob1 ob2 ob3 hs0 IA hnn hc hexa
    go_enter Try.func29, Try.ntmps29
    have hB0 := Below.refl w.heap.size w
    have hz0 := hB0.size
    go_wp2_with fail
    refine (rnone_at h NA).mono ?_
    rintro e' w' ⟨rfl, rfl⟩
    go_wp2_with fail
    refine (rabs_at h HX).mono ?_
    rintro e' w' ⟨rfl, rfl⟩
    go_wp2_with fail
    refine (rbelow_at SA).mono ?_
    rintro e' w' ⟨rfl, rfl⟩
    go_wp2_with fail
    refine (rcut_any a _ h).mono ?_
    rintro e' w' ⟨-, hc, rfl⟩
    rw [hc (by have h1 := HXL.out; have h2 := HX.out; omega), HN.out]
    clear hc
    go_wp2_with fail
    refine (amount_nv x _ (by omega)).mono ?_
    rintro e' W1 ⟨A1, k1, c1, rfl, v1, hC⟩
    have hB1 := hB0.trans (hC.mono hz0)
    have hz1 := hB1.size
    clear hC hB0 hz0
    go_wp2_with fail
    refine (of_nv N _ (Lib.hid (by omega))).mono ?_
    rintro e' W2 ⟨A2, k2, c2, rfl, v2, hC⟩
    have hB2 := hB1.trans (hC.mono hz1)
    have hz2 := hB2.size
    have v1 := v1.below hC
    clear hC hB1 hz1
    go_wp2_with fail
    refine (twice_nv (k := 149) v2 (ten_thirty (big_24 (by omega))) (by omega) (Lib.hid rfl)).mono ?_
    rintro e' W3 ⟨A3, k3, c3, rfl, v3, hC⟩
    have hB3 := hB2.trans (hC.mono hz2)
    have hz3 := hB3.size
    have v1 := v1.below hC
    have v2 := v2.below hC
    clear hC hB2 hz2
    go_wp2_with fail
    refine (compare_nv v3 v1 (ten_thirty (big_149n (by omega))) (amt_big (by omega)) HC).mono ?_
    rintro e' w' ⟨rfl, nd3, rfl⟩
    have hB4 := below_drewN hB3 nd3
    have hz4 := hB4.size
    have v1 := v1.below (below_drewN (Below.refl _ _) nd3)
    have v2 := v2.below (below_drewN (Below.refl _ _) nd3)
    have v3 := v3.below (below_drewN (Below.refl _ _) nd3)
    clear hB3 hz3
    go_wp2
    go_ret
    exact ⟨by rw [HE.out]; try rfl, hB4⟩
  have bc : (c == 0) = false := by rw [beq_eq_false_iff_ne, ← hc]; exact fun e => hexa (cmpV_zero.1 e)
  have hlt0 : oE a < 0 := by
    rcases Int.lt_or_eq_of_le hoE with h | h
    · exact h
    · have := whole_zero h
      rw [hN, hx] at this
      exact absurd this hexa
  obtain ⟨d, hd⟩ : ∃ d : Nat, oE a = -(d : Int) := ⟨(-oE a).toNat, by omega⟩
  obtain ⟨p1, p2, p3, p4⟩ := whole_parts hd (by omega) (by omega)
  rw [hN, hx] at p2 p3 p4
  rw [hN] at p1
  have hl0 : ¬ oS a % two d = 0 := fun e => hexa (p2.2 e)
  have hE0 : wholeP 1 a = roundP 0 sa 0 (if upP 1 sa (halfP (oS a % two d) d) (decide (N % 2 = 1)) = true then N + 1 else N) false := by
    unfold wholeP
    rw [if_neg hno, if_neg (by simp [IA, hs0]; omega), hd, show (-(-(d : Int))).toNat = d from by omega, if_neg hl0, ← p1, ← hsa]
    rfl
  have hE1 : wholeP 1 a = roundP 0 sa 0 (if (!sa) = true then N + 1 else N) false := hE0
  obtain ⟨M, hM⟩ : ∃ x, N + 1 = x := ⟨_, rfl⟩
  have hMc : (N : Int) + 1 = (M : Int) := by omega
  have hM24 : M ≤ 16777216 := by omega
  cases sa
  · have HE : Hid (wholeP 1 a = rnd 0 false (two 149 * M) 1) := Lib.hid (by
      rw [hE1, if_pos (by decide), hM]
      exact whole_fin (by omega))
    clear hna hno hx hsa hex hbig hx0 hoE ob1 ob2 ob3 hs0 IA hnn hc hexa hlt0 hd p1 p2 p3 p4 hl0 hE0 hE1 hM
    go_enter Try.func29, Try.ntmps29
    have hB0 := Below.refl w.heap.size w
    have hz0 := hB0.size
    go_wp2_with fail
    refine (rnone_at h NA).mono ?_
    rintro e' w' ⟨rfl, rfl⟩
    go_wp2_with fail
    refine (rabs_at h HX).mono ?_
    rintro e' w' ⟨rfl, rfl⟩
    go_wp2_with fail
    refine (rbelow_at SA).mono ?_
    rintro e' w' ⟨rfl, rfl⟩
    go_wp2_with fail
    refine (rcut_any a _ h).mono ?_
    rintro e' w' ⟨-, hc, rfl⟩
    rw [hc (by have h1 := HXL.out; have h2 := HX.out; omega), HN.out]
    clear hc
    go_wp2_with fail
    refine (amount_nv x _ (by omega)).mono ?_
    rintro e' W1 ⟨A1, k1, c1, rfl, v1, hC⟩
    have hB1 := hB0.trans (hC.mono hz0)
    have hz1 := hB1.size
    clear hC hB0 hz0
    go_wp2_with fail
    refine (of_nv N _ (Lib.hid (by omega))).mono ?_
    rintro e' W2 ⟨A2, k2, c2, rfl, v2, hC⟩
    have hB2 := hB1.trans (hC.mono hz1)
    have hz2 := hB2.size
    have v1 := v1.below hC
    clear hC hB1 hz1
    go_wp2_with fail
    refine (twice_nv (k := 149) v2 (ten_thirty (big_24 (by omega))) (by omega) (Lib.hid rfl)).mono ?_
    rintro e' W3 ⟨A3, k3, c3, rfl, v3, hC⟩
    have hB3 := hB2.trans (hC.mono hz2)
    have hz3 := hB3.size
    have v1 := v1.below hC
    have v2 := v2.below hC
    clear hC hB2 hz2
    go_wp2_with fail
    refine (compare_nv v3 v1 (ten_thirty (big_149n (by omega))) (amt_big (by omega)) HC).mono ?_
    rintro e' w' ⟨rfl, nd3, rfl⟩
    have hB4 := below_drewN hB3 nd3
    have hz4 := hB4.size
    have v1 := v1.below (below_drewN (Below.refl _ _) nd3)
    have v2 := v2.below (below_drewN (Below.refl _ _) nd3)
    have v3 := v3.below (below_drewN (Below.refl _ _) nd3)
    clear hB3 hz3
    go_wp2_with fail
    refine (of_nv M _ (Lib.hid (by omega))).mono ?_
    rintro e' W5 ⟨A5, k5, c5, rfl, v4, hC⟩
    have hB5 := hB4.trans (hC.mono hz4)
    have hz5 := hB5.size
    have v1 := v1.below hC
    have v2 := v2.below hC
    have v3 := v3.below hC
    clear hC hB4 hz4
    go_wp2_with fail
    refine (twice_nv (k := 149) v4 (ten_thirty (big_24 (by omega))) (by omega) (Lib.hid rfl)).mono ?_
    rintro e' W6 ⟨A6, k6, c6, rfl, v5, hC⟩
    have hB6 := hB5.trans (hC.mono hz5)
    have hz6 := hB6.size
    have v1 := v1.below hC
    have v2 := v2.below hC
    have v3 := v3.below hC
    have v4 := v4.below hC
    clear hC hB5 hz5
    go_wp2_with fail
    refine (of_nv 1 _ (Lib.hid (by decide))).mono ?_
    rintro e' W7 ⟨A7, k7, c7, rfl, v6, hC⟩
    have hB7 := hB6.trans (hC.mono hz6)
    have hz7 := hB7.size
    have v1 := v1.below hC
    have v2 := v2.below hC
    have v3 := v3.below hC
    have v4 := v4.below hC
    have v5 := v5.below hC
    clear hC hB6 hz6
    go_wp2_with fail
    refine (rounded_any v5 v6 (Lib.hid (big_149n (by omega))) (Lib.hid big_1)).mono ?_
    rintro e' W8 ⟨rfl, hC⟩
    have hB8 := hB7.trans (hC.mono hz7)
    have hz8 := hB8.size
    clear hC hB7 hz7
    go_wp2
    go_ret
    exact ⟨by rw [HE.out]; try rfl, hB8⟩
  · have HE : Hid (wholeP 1 a = rnd 0 true (two 149 * N) 1) := Lib.hid (by
      rw [hE1, if_neg (by decide)]
      exact whole_fin (by omega))
    clear hna hno hx hsa hex hbig hx0 hoE ob1 ob2 ob3 hs0 IA hnn hc hexa hlt0 hd p1 p2 p3 p4 hl0 hE0 hE1 hM
    go_enter Try.func29, Try.ntmps29
    have hB0 := Below.refl w.heap.size w
    have hz0 := hB0.size
    go_wp2_with fail
    refine (rnone_at h NA).mono ?_
    rintro e' w' ⟨rfl, rfl⟩
    go_wp2_with fail
    refine (rabs_at h HX).mono ?_
    rintro e' w' ⟨rfl, rfl⟩
    go_wp2_with fail
    refine (rbelow_at SA).mono ?_
    rintro e' w' ⟨rfl, rfl⟩
    go_wp2_with fail
    refine (rcut_any a _ h).mono ?_
    rintro e' w' ⟨-, hc, rfl⟩
    rw [hc (by have h1 := HXL.out; have h2 := HX.out; omega), HN.out]
    clear hc
    go_wp2_with fail
    refine (amount_nv x _ (by omega)).mono ?_
    rintro e' W1 ⟨A1, k1, c1, rfl, v1, hC⟩
    have hB1 := hB0.trans (hC.mono hz0)
    have hz1 := hB1.size
    clear hC hB0 hz0
    go_wp2_with fail
    refine (of_nv N _ (Lib.hid (by omega))).mono ?_
    rintro e' W2 ⟨A2, k2, c2, rfl, v2, hC⟩
    have hB2 := hB1.trans (hC.mono hz1)
    have hz2 := hB2.size
    have v1 := v1.below hC
    clear hC hB1 hz1
    go_wp2_with fail
    refine (twice_nv (k := 149) v2 (ten_thirty (big_24 (by omega))) (by omega) (Lib.hid rfl)).mono ?_
    rintro e' W3 ⟨A3, k3, c3, rfl, v3, hC⟩
    have hB3 := hB2.trans (hC.mono hz2)
    have hz3 := hB3.size
    have v1 := v1.below hC
    have v2 := v2.below hC
    clear hC hB2 hz2
    go_wp2_with fail
    refine (compare_nv v3 v1 (ten_thirty (big_149n (by omega))) (amt_big (by omega)) HC).mono ?_
    rintro e' w' ⟨rfl, nd3, rfl⟩
    have hB4 := below_drewN hB3 nd3
    have hz4 := hB4.size
    have v1 := v1.below (below_drewN (Below.refl _ _) nd3)
    have v2 := v2.below (below_drewN (Below.refl _ _) nd3)
    have v3 := v3.below (below_drewN (Below.refl _ _) nd3)
    clear hB3 hz3
    go_wp2_with fail
    refine (of_nv N _ (Lib.hid (by omega))).mono ?_
    rintro e' W5 ⟨A5, k5, c5, rfl, v4, hC⟩
    have hB5 := hB4.trans (hC.mono hz4)
    have hz5 := hB5.size
    have v1 := v1.below hC
    have v2 := v2.below hC
    have v3 := v3.below hC
    clear hC hB4 hz4
    go_wp2_with fail
    refine (twice_nv (k := 149) v4 (ten_thirty (big_24 (by omega))) (by omega) (Lib.hid rfl)).mono ?_
    rintro e' W6 ⟨A6, k6, c6, rfl, v5, hC⟩
    have hB6 := hB5.trans (hC.mono hz5)
    have hz6 := hB6.size
    have v1 := v1.below hC
    have v2 := v2.below hC
    have v3 := v3.below hC
    have v4 := v4.below hC
    clear hC hB5 hz5
    go_wp2_with fail
    refine (of_nv 1 _ (Lib.hid (by decide))).mono ?_
    rintro e' W7 ⟨A7, k7, c7, rfl, v6, hC⟩
    have hB7 := hB6.trans (hC.mono hz6)
    have hz7 := hB7.size
    have v1 := v1.below hC
    have v2 := v2.below hC
    have v3 := v3.below hC
    have v4 := v4.below hC
    have v5 := v5.below hC
    clear hC hB6 hz6
    go_wp2_with fail
    refine (rounded_any v5 v6 (Lib.hid (big_149n (by omega))) (Lib.hid big_1)).mono ?_
    rintro e' W8 ⟨rfl, hC⟩
    have hB8 := hB7.trans (hC.mono hz7)
    have hz8 := hB8.size
    clear hC hB7 hz7
    go_wp2
    go_ret
    exact ⟨by rw [HE.out]; try rfl, hB8⟩
set_option maxRecDepth 100000 in
set_option maxHeartbeats 1600000 in
theorem rwhole2_any (a : Nat) (w : World) (h : Hid (a < 4294967296)) :
    Calls Try.prog 29 #[.int .i64 2, .int .u32 (a : Int)] w (BR w (wholeP 2 a)) := by
  obtain ⟨x, hx⟩ : ∃ x, absP a = x := ⟨_, rfl⟩
  obtain ⟨sa, hsa⟩ : ∃ s, decide (2147483648 ≤ a) = s := ⟨_, rfl⟩
  have HX := Lib.hid hx
  have SA := Lib.hid hsa
  cases hna : nanP a
  case true =>
    have NA := Lib.hid hna
    have HE : Hid (wholeP 2 a = 2143289344) := Lib.hid (by unfold wholeP; rw [if_pos hna])
    clear hna hx hsa
    go_enter Try.func29, Try.ntmps29
    have hB0 := Below.refl w.heap.size w
    have hz0 := hB0.size
    go_wp2_with fail
    refine (rnone_at h NA).mono ?_
    rintro e' w' ⟨rfl, rfl⟩
    go_wp2
    go_ret
    exact ⟨by rw [HE.out]; try rfl, hB0⟩
  have NA := Lib.hid hna
  have hno : ¬ nanP a = true := by rw [hna]; decide
  have hex : a / 8388608 % 256 = x / 8388608 := by rw [← hx]; unfold absP; omega
  by_cases hbig : 1266679808 ≤ x
  case pos =>
    have h0e : 0 ≤ oE a := by
      unfold oE
      rw [hex]
      split <;> omega
    have HE : Hid (wholeP 2 a = a) := Lib.hid (by
      unfold wholeP
      rw [if_neg hno, if_pos (.inr (.inl h0e))])
    have bb : decide ((1266679808 : Int) ≤ (x : Int)) = true := decide_eq_true (by omega)
    clear hna hno hx hsa hex hbig h0e
    go_enter Try.func29, Try.ntmps29
    have hB0 := Below.refl w.heap.size w
    have hz0 := hB0.size
    go_wp2_with fail
    refine (rnone_at h NA).mono ?_
    rintro e' w' ⟨rfl, rfl⟩
    go_wp2_with fail
    refine (rabs_at h HX).mono ?_
    rintro e' w' ⟨rfl, rfl⟩
    go_wp2
    go_ret
    exact ⟨by rw [HE.out]; try rfl, hB0⟩
  have bb : decide ((1266679808 : Int) ≤ (x : Int)) = false := decide_eq_false (by omega)
  by_cases hx0 : x = 0
  case pos =>
    have HE : Hid (wholeP 2 a = a) := Lib.hid (by unfold wholeP; rw [if_neg hno, if_pos (.inr (.inr (o_nil.2 (hx.trans hx0))))])
    have b0 : ((x : Int) == 0) = true := int_eq (y := 0) hx0
    clear hna hno hx hsa hex hbig hx0
    go_enter Try.func29, Try.ntmps29
    have hB0 := Below.refl w.heap.size w
    have hz0 := hB0.size
    go_wp2_with fail
    refine (rnone_at h NA).mono ?_
    rintro e' w' ⟨rfl, rfl⟩
    go_wp2_with fail
    refine (rabs_at h HX).mono ?_
    rintro e' w' ⟨rfl, rfl⟩
    go_wp2
    go_ret
    exact ⟨by rw [HE.out]; try rfl, hB0⟩
  have b0 : ((x : Int) == 0) = false := int_ne (y := 0) hx0
  have hoE : oE a ≤ 0 := by
    unfold oE
    rw [hex]
    split <;> omega
  obtain ⟨ob1, ob2, ob3⟩ := o_bounds a
  obtain ⟨N, hN⟩ : ∃ n, cutA a = n := ⟨_, rfl⟩
  have HN := Lib.hid hN
  have HXL : Hid (x < 1266679808) := Lib.hid (by omega)
  have hxl : x ≤ 2139095040 := by omega
  have hs0 : ¬ oS a = 0 := fun e => hx0 (hx.symm.trans (o_nil.1 e))
  have IA : ¬ infP a = true := fun e => by
    have := hx.symm.trans (inf_abs.1 e)
    omega
  have hnn : N ≤ oS a := by
    rw [← hN]
    unfold cutA
    by_cases he : 0 ≤ oE a
    · rw [if_pos he, show (oE a).toNat = 0 from by omega, show two 0 = 1 from rfl, Nat.mul_one]; exact Nat.le_refl _
    · rw [if_neg he]; exact Nat.div_le_self _ _
  have hN24 : N < 16777216 := by omega
  obtain ⟨c, hc⟩ : ∃ c, cmpV (two 149 * N) (amt x) = c := ⟨_, rfl⟩
  have HC := Lib.hid hc
  by_cases hexa : two 149 * N = amt x
  case pos =>
    have HE : Hid (wholeP 2 a = a) := Lib.hid (by
      unfold wholeP
      rw [if_neg hno]
      by_cases he : 0 ≤ oE a
      · rw [if_pos (.inr (.inl he))]
      · rw [if_neg (by simp [IA, hs0]; omega)]
        obtain ⟨d, hd⟩ : ∃ d : Nat, oE a = -(d : Int) := ⟨(-oE a).toNat, by omega⟩
        have hp := whole_parts hd (by omega) (by omega)
        rw [hN, hx] at hp
        rw [hd, show (-(-(d : Int))).toNat = d from by omega, if_pos (hp.2.1.1 hexa)])
    have hc0 : c = 0 := by rw [← hc]; exact cmpV_zero.2 hexa
    subst hc0
    clear hna hno hx hsa hex hbig hx0 hoE ob1 ob2 ob3 hs0 IA hnn hc hexa
    go_enter Try.func29, Try.ntmps29
    have hB0 := Below.refl w.heap.size w
    have hz0 := hB0.size
    go_wp2_with fail
    refine (rnone_at h NA).mono ?_
    rintro e' w' ⟨rfl, rfl⟩
    go_wp2_with fail
    refine (rabs_at h HX).mono ?_
    rintro e' w' ⟨rfl, rfl⟩
    go_wp2_with fail
    refine (rbelow_at SA).mono ?_
    rintro e' w' ⟨rfl, rfl⟩
    go_wp2_with fail
    refine (rcut_any a _ h).mono ?_
    rintro e' w' ⟨-, hc, rfl⟩
    rw [hc (by have h1 := HXL.out; have h2 := HX.out; omega), HN.out]
    clear hc
    go_wp2_with fail
    refine (amount_nv x _ (by omega)).mono ?_
    rintro e' W1 ⟨A1, k1, c1, rfl, v1, hC⟩
    have hB1 := hB0.trans (hC.mono hz0)
    have hz1 := hB1.size
    clear hC hB0 hz0
    go_wp2_with fail
    refine (of_nv N _ (Lib.hid (by omega))).mono ?_
    rintro e' W2 ⟨A2, k2, c2, rfl, v2, hC⟩
    have hB2 := hB1.trans (hC.mono hz1)
    have hz2 := hB2.size
    have v1 := v1.below hC
    clear hC hB1 hz1
    go_wp2_with fail
    refine (twice_nv (k := 149) v2 (ten_thirty (big_24 (by omega))) (by omega) (Lib.hid rfl)).mono ?_
    rintro e' W3 ⟨A3, k3, c3, rfl, v3, hC⟩
    have hB3 := hB2.trans (hC.mono hz2)
    have hz3 := hB3.size
    have v1 := v1.below hC
    have v2 := v2.below hC
    clear hC hB2 hz2
    go_wp2_with fail
    refine (compare_nv v3 v1 (ten_thirty (big_149n (by omega))) (amt_big (by omega)) HC).mono ?_
    rintro e' w' ⟨rfl, nd3, rfl⟩
    have hB4 := below_drewN hB3 nd3
    have hz4 := hB4.size
    have v1 := v1.below (below_drewN (Below.refl _ _) nd3)
    have v2 := v2.below (below_drewN (Below.refl _ _) nd3)
    have v3 := v3.below (below_drewN (Below.refl _ _) nd3)
    clear hB3 hz3
    go_wp2
    go_ret
    exact ⟨by rw [HE.out]; try rfl, hB4⟩
  have bc : (c == 0) = false := by rw [beq_eq_false_iff_ne, ← hc]; exact fun e => hexa (cmpV_zero.1 e)
  have hlt0 : oE a < 0 := by
    rcases Int.lt_or_eq_of_le hoE with h | h
    · exact h
    · have := whole_zero h
      rw [hN, hx] at this
      exact absurd this hexa
  obtain ⟨d, hd⟩ : ∃ d : Nat, oE a = -(d : Int) := ⟨(-oE a).toNat, by omega⟩
  obtain ⟨p1, p2, p3, p4⟩ := whole_parts hd (by omega) (by omega)
  rw [hN, hx] at p2 p3 p4
  rw [hN] at p1
  have hl0 : ¬ oS a % two d = 0 := fun e => hexa (p2.2 e)
  have hE0 : wholeP 2 a = roundP 0 sa 0 (if upP 2 sa (halfP (oS a % two d) d) (decide (N % 2 = 1)) = true then N + 1 else N) false := by
    unfold wholeP
    rw [if_neg hno, if_neg (by simp [IA, hs0]; omega), hd, show (-(-(d : Int))).toNat = d from by omega, if_neg hl0, ← p1, ← hsa]
    rfl
  obtain ⟨v, hv⟩ : ∃ v, cmpV (two 1 * amt x) (two 149 * (2 * N + 1)) = v := ⟨_, rfl⟩
  have HV := Lib.hid hv
  obtain ⟨K, hK⟩ : ∃ K, 2 * N + 1 = K := ⟨_, rfl⟩
  rw [hK] at HV
  have hKc : 2 * (N : Int) + 1 = (K : Int) := by omega
  have hK24 : K ≤ 33554432 := by omega
  obtain ⟨M, hM⟩ : ∃ x, N + 1 = x := ⟨_, rfl⟩
  have hMc : (N : Int) + 1 = (M : Int) := by omega
  have hM24 : M ≤ 16777216 := by omega
  have hE1 : wholeP 2 a = roundP 0 sa 0 (if (decide (0 < v) || (decide (v = 0) && decide (N % 2 = 1))) = true then M else N) false := by
    rw [hE0, half_cmp p3 p4 hv, hM]
  by_cases v1c : 0 < v
  · have HE : Hid (wholeP 2 a = rnd 0 sa (two 149 * M) 1) := Lib.hid (by
      rw [hE1, if_pos (by simp [v1c])]
      exact whole_fin (by omega))
    clear hna hno hx hsa hex hbig hx0 hoE ob1 ob2 ob3 hs0 IA hnn hc hexa hlt0 hd p1 p2 p3 p4 hl0 hE0 hE1 hM hK hv
    go_enter Try.func29, Try.ntmps29
    have hB0 := Below.refl w.heap.size w
    have hz0 := hB0.size
    go_wp2_with fail
    refine (rnone_at h NA).mono ?_
    rintro e' w' ⟨rfl, rfl⟩
    go_wp2_with fail
    refine (rabs_at h HX).mono ?_
    rintro e' w' ⟨rfl, rfl⟩
    go_wp2_with fail
    refine (rbelow_at SA).mono ?_
    rintro e' w' ⟨rfl, rfl⟩
    go_wp2_with fail
    refine (rcut_any a _ h).mono ?_
    rintro e' w' ⟨-, hc, rfl⟩
    rw [hc (by have h1 := HXL.out; have h2 := HX.out; omega), HN.out]
    clear hc
    go_wp2_with fail
    refine (amount_nv x _ (by omega)).mono ?_
    rintro e' W1 ⟨A1, k1, c1, rfl, v1, hC⟩
    have hB1 := hB0.trans (hC.mono hz0)
    have hz1 := hB1.size
    clear hC hB0 hz0
    go_wp2_with fail
    refine (of_nv N _ (Lib.hid (by omega))).mono ?_
    rintro e' W2 ⟨A2, k2, c2, rfl, v2, hC⟩
    have hB2 := hB1.trans (hC.mono hz1)
    have hz2 := hB2.size
    have v1 := v1.below hC
    clear hC hB1 hz1
    go_wp2_with fail
    refine (twice_nv (k := 149) v2 (ten_thirty (big_24 (by omega))) (by omega) (Lib.hid rfl)).mono ?_
    rintro e' W3 ⟨A3, k3, c3, rfl, v3, hC⟩
    have hB3 := hB2.trans (hC.mono hz2)
    have hz3 := hB3.size
    have v1 := v1.below hC
    have v2 := v2.below hC
    clear hC hB2 hz2
    go_wp2_with fail
    refine (compare_nv v3 v1 (ten_thirty (big_149n (by omega))) (amt_big (by omega)) HC).mono ?_
    rintro e' w' ⟨rfl, nd3, rfl⟩
    have hB4 := below_drewN hB3 nd3
    have hz4 := hB4.size
    have v1 := v1.below (below_drewN (Below.refl _ _) nd3)
    have v2 := v2.below (below_drewN (Below.refl _ _) nd3)
    have v3 := v3.below (below_drewN (Below.refl _ _) nd3)
    clear hB3 hz3
    go_wp2_with fail
    refine (twice_nv (k := 1) v1 (amt_big (by omega)) (by omega) (Lib.hid rfl)).mono ?_
    rintro e' W5 ⟨A5, k5, c5, rfl, u1, hC⟩
    have hB5 := hB4.trans (hC.mono hz4)
    have hz5 := hB5.size
    have v1 := v1.below hC
    have v2 := v2.below hC
    have v3 := v3.below hC
    clear hC hB4 hz4
    go_wp2_with fail
    refine (of_nv K _ (Lib.hid (by omega))).mono ?_
    rintro e' W6 ⟨A6, k6, c6, rfl, u2, hC⟩
    have hB6 := hB5.trans (hC.mono hz5)
    have hz6 := hB6.size
    have v1 := v1.below hC
    have v2 := v2.below hC
    have v3 := v3.below hC
    have u1 := u1.below hC
    clear hC hB5 hz5
    go_wp2_with fail
    refine (twice_nv (k := 149) u2 (ten_thirty (big_24 (by omega))) (by omega) (Lib.hid rfl)).mono ?_
    rintro e' W7 ⟨A7, k7, c7, rfl, u3, hC⟩
    have hB7 := hB6.trans (hC.mono hz6)
    have hz7 := hB7.size
    have v1 := v1.below hC
    have v2 := v2.below hC
    have v3 := v3.below hC
    have u1 := u1.below hC
    have u2 := u2.below hC
    clear hC hB6 hz6
    go_wp2_with fail
    refine (compare_nv u1 u3 (two_p (amt_ten (by omega))) (ten_thirty (big_149n (by omega))) HV).mono ?_
    rintro e' w' ⟨rfl, nd7, rfl⟩
    have hB8 := below_drewN hB7 nd7
    have hz8 := hB8.size
    have v1 := v1.below (below_drewN (Below.refl _ _) nd7)
    have v2 := v2.below (below_drewN (Below.refl _ _) nd7)
    have v3 := v3.below (below_drewN (Below.refl _ _) nd7)
    have u1 := u1.below (below_drewN (Below.refl _ _) nd7)
    have u2 := u2.below (below_drewN (Below.refl _ _) nd7)
    have u3 := u3.below (below_drewN (Below.refl _ _) nd7)
    clear hB7 hz7
    go_wp2_with fail
    refine (of_nv M _ (Lib.hid (by omega))).mono ?_
    rintro e' W9 ⟨A9, k9, c9, rfl, v4, hC⟩
    have hB9 := hB8.trans (hC.mono hz8)
    have hz9 := hB9.size
    have v1 := v1.below hC
    have v2 := v2.below hC
    have v3 := v3.below hC
    have u1 := u1.below hC
    have u2 := u2.below hC
    have u3 := u3.below hC
    clear hC hB8 hz8
    go_wp2_with fail
    refine (twice_nv (k := 149) v4 (ten_thirty (big_24 (by omega))) (by omega) (Lib.hid rfl)).mono ?_
    rintro e' W10 ⟨A10, k10, c10, rfl, v5, hC⟩
    have hB10 := hB9.trans (hC.mono hz9)
    have hz10 := hB10.size
    have v1 := v1.below hC
    have v2 := v2.below hC
    have v3 := v3.below hC
    have u1 := u1.below hC
    have u2 := u2.below hC
    have u3 := u3.below hC
    have v4 := v4.below hC
    clear hC hB9 hz9
    go_wp2_with fail
    refine (of_nv 1 _ (Lib.hid (by decide))).mono ?_
    rintro e' W11 ⟨A11, k11, c11, rfl, v6, hC⟩
    have hB11 := hB10.trans (hC.mono hz10)
    have hz11 := hB11.size
    have v1 := v1.below hC
    have v2 := v2.below hC
    have v3 := v3.below hC
    have u1 := u1.below hC
    have u2 := u2.below hC
    have u3 := u3.below hC
    have v4 := v4.below hC
    have v5 := v5.below hC
    clear hC hB10 hz10
    go_wp2_with fail
    refine (rounded_any v5 v6 (Lib.hid (big_149n (by omega))) (Lib.hid big_1)).mono ?_
    rintro e' W12 ⟨rfl, hC⟩
    have hB12 := hB11.trans (hC.mono hz11)
    have hz12 := hB12.size
    clear hC hB11 hz11
    go_wp2
    go_ret
    exact ⟨by rw [HE.out]; try rfl, hB12⟩
  by_cases v0c : v = 0
  · by_cases hpar : N % 2 = 1
    · have hpar2 : ((N : Int) % 2 == 1) = true := by rw [beq_iff_eq]; omega
      have HE : Hid (wholeP 2 a = rnd 0 sa (two 149 * M) 1) := Lib.hid (by
        rw [hE1, if_pos (by simp [v0c, hpar])]
        exact whole_fin (by omega))
      subst v0c
      clear hpar v1c
      clear hna hno hx hsa hex hbig hx0 hoE ob1 ob2 ob3 hs0 IA hnn hc hexa hlt0 hd p1 p2 p3 p4 hl0 hE0 hE1 hM hK hv
      go_enter Try.func29, Try.ntmps29
      have hB0 := Below.refl w.heap.size w
      have hz0 := hB0.size
      go_wp2_with fail
      refine (rnone_at h NA).mono ?_
      rintro e' w' ⟨rfl, rfl⟩
      go_wp2_with fail
      refine (rabs_at h HX).mono ?_
      rintro e' w' ⟨rfl, rfl⟩
      go_wp2_with fail
      refine (rbelow_at SA).mono ?_
      rintro e' w' ⟨rfl, rfl⟩
      go_wp2_with fail
      refine (rcut_any a _ h).mono ?_
      rintro e' w' ⟨-, hc, rfl⟩
      rw [hc (by have h1 := HXL.out; have h2 := HX.out; omega), HN.out]
      clear hc
      go_wp2_with fail
      refine (amount_nv x _ (by omega)).mono ?_
      rintro e' W1 ⟨A1, k1, c1, rfl, v1, hC⟩
      have hB1 := hB0.trans (hC.mono hz0)
      have hz1 := hB1.size
      clear hC hB0 hz0
      go_wp2_with fail
      refine (of_nv N _ (Lib.hid (by omega))).mono ?_
      rintro e' W2 ⟨A2, k2, c2, rfl, v2, hC⟩
      have hB2 := hB1.trans (hC.mono hz1)
      have hz2 := hB2.size
      have v1 := v1.below hC
      clear hC hB1 hz1
      go_wp2_with fail
      refine (twice_nv (k := 149) v2 (ten_thirty (big_24 (by omega))) (by omega) (Lib.hid rfl)).mono ?_
      rintro e' W3 ⟨A3, k3, c3, rfl, v3, hC⟩
      have hB3 := hB2.trans (hC.mono hz2)
      have hz3 := hB3.size
      have v1 := v1.below hC
      have v2 := v2.below hC
      clear hC hB2 hz2
      go_wp2_with fail
      refine (compare_nv v3 v1 (ten_thirty (big_149n (by omega))) (amt_big (by omega)) HC).mono ?_
      rintro e' w' ⟨rfl, nd3, rfl⟩
      have hB4 := below_drewN hB3 nd3
      have hz4 := hB4.size
      have v1 := v1.below (below_drewN (Below.refl _ _) nd3)
      have v2 := v2.below (below_drewN (Below.refl _ _) nd3)
      have v3 := v3.below (below_drewN (Below.refl _ _) nd3)
      clear hB3 hz3
      go_wp2_with fail
      refine (twice_nv (k := 1) v1 (amt_big (by omega)) (by omega) (Lib.hid rfl)).mono ?_
      rintro e' W5 ⟨A5, k5, c5, rfl, u1, hC⟩
      have hB5 := hB4.trans (hC.mono hz4)
      have hz5 := hB5.size
      have v1 := v1.below hC
      have v2 := v2.below hC
      have v3 := v3.below hC
      clear hC hB4 hz4
      go_wp2_with fail
      refine (of_nv K _ (Lib.hid (by omega))).mono ?_
      rintro e' W6 ⟨A6, k6, c6, rfl, u2, hC⟩
      have hB6 := hB5.trans (hC.mono hz5)
      have hz6 := hB6.size
      have v1 := v1.below hC
      have v2 := v2.below hC
      have v3 := v3.below hC
      have u1 := u1.below hC
      clear hC hB5 hz5
      go_wp2_with fail
      refine (twice_nv (k := 149) u2 (ten_thirty (big_24 (by omega))) (by omega) (Lib.hid rfl)).mono ?_
      rintro e' W7 ⟨A7, k7, c7, rfl, u3, hC⟩
      have hB7 := hB6.trans (hC.mono hz6)
      have hz7 := hB7.size
      have v1 := v1.below hC
      have v2 := v2.below hC
      have v3 := v3.below hC
      have u1 := u1.below hC
      have u2 := u2.below hC
      clear hC hB6 hz6
      go_wp2_with fail
      refine (compare_nv u1 u3 (two_p (amt_ten (by omega))) (ten_thirty (big_149n (by omega))) HV).mono ?_
      rintro e' w' ⟨rfl, nd7, rfl⟩
      have hB8 := below_drewN hB7 nd7
      have hz8 := hB8.size
      have v1 := v1.below (below_drewN (Below.refl _ _) nd7)
      have v2 := v2.below (below_drewN (Below.refl _ _) nd7)
      have v3 := v3.below (below_drewN (Below.refl _ _) nd7)
      have u1 := u1.below (below_drewN (Below.refl _ _) nd7)
      have u2 := u2.below (below_drewN (Below.refl _ _) nd7)
      have u3 := u3.below (below_drewN (Below.refl _ _) nd7)
      clear hB7 hz7
      go_wp2_with fail
      refine (of_nv M _ (Lib.hid (by omega))).mono ?_
      rintro e' W9 ⟨A9, k9, c9, rfl, v4, hC⟩
      have hB9 := hB8.trans (hC.mono hz8)
      have hz9 := hB9.size
      have v1 := v1.below hC
      have v2 := v2.below hC
      have v3 := v3.below hC
      have u1 := u1.below hC
      have u2 := u2.below hC
      have u3 := u3.below hC
      clear hC hB8 hz8
      go_wp2_with fail
      refine (twice_nv (k := 149) v4 (ten_thirty (big_24 (by omega))) (by omega) (Lib.hid rfl)).mono ?_
      rintro e' W10 ⟨A10, k10, c10, rfl, v5, hC⟩
      have hB10 := hB9.trans (hC.mono hz9)
      have hz10 := hB10.size
      have v1 := v1.below hC
      have v2 := v2.below hC
      have v3 := v3.below hC
      have u1 := u1.below hC
      have u2 := u2.below hC
      have u3 := u3.below hC
      have v4 := v4.below hC
      clear hC hB9 hz9
      go_wp2_with fail
      refine (of_nv 1 _ (Lib.hid (by decide))).mono ?_
      rintro e' W11 ⟨A11, k11, c11, rfl, v6, hC⟩
      have hB11 := hB10.trans (hC.mono hz10)
      have hz11 := hB11.size
      have v1 := v1.below hC
      have v2 := v2.below hC
      have v3 := v3.below hC
      have u1 := u1.below hC
      have u2 := u2.below hC
      have u3 := u3.below hC
      have v4 := v4.below hC
      have v5 := v5.below hC
      clear hC hB10 hz10
      go_wp2_with fail
      refine (rounded_any v5 v6 (Lib.hid (big_149n (by omega))) (Lib.hid big_1)).mono ?_
      rintro e' W12 ⟨rfl, hC⟩
      have hB12 := hB11.trans (hC.mono hz11)
      have hz12 := hB12.size
      clear hC hB11 hz11
      go_wp2
      go_ret
      exact ⟨by rw [HE.out]; try rfl, hB12⟩
    · have hpar2 : ((N : Int) % 2 == 1) = false := by rw [beq_eq_false_iff_ne]; omega
      have HE : Hid (wholeP 2 a = rnd 0 sa (two 149 * N) 1) := Lib.hid (by
        rw [hE1, if_neg (by simp [v0c, hpar])]
        exact whole_fin (by omega))
      subst v0c
      clear hpar v1c
      clear hna hno hx hsa hex hbig hx0 hoE ob1 ob2 ob3 hs0 IA hnn hc hexa hlt0 hd p1 p2 p3 p4 hl0 hE0 hE1 hM hK hv
      go_enter Try.func29, Try.ntmps29
      have hB0 := Below.refl w.heap.size w
      have hz0 := hB0.size
      go_wp2_with fail
      refine (rnone_at h NA).mono ?_
      rintro e' w' ⟨rfl, rfl⟩
      go_wp2_with fail
      refine (rabs_at h HX).mono ?_
      rintro e' w' ⟨rfl, rfl⟩
      go_wp2_with fail
      refine (rbelow_at SA).mono ?_
      rintro e' w' ⟨rfl, rfl⟩
      go_wp2_with fail
      refine (rcut_any a _ h).mono ?_
      rintro e' w' ⟨-, hc, rfl⟩
      rw [hc (by have h1 := HXL.out; have h2 := HX.out; omega), HN.out]
      clear hc
      go_wp2_with fail
      refine (amount_nv x _ (by omega)).mono ?_
      rintro e' W1 ⟨A1, k1, c1, rfl, v1, hC⟩
      have hB1 := hB0.trans (hC.mono hz0)
      have hz1 := hB1.size
      clear hC hB0 hz0
      go_wp2_with fail
      refine (of_nv N _ (Lib.hid (by omega))).mono ?_
      rintro e' W2 ⟨A2, k2, c2, rfl, v2, hC⟩
      have hB2 := hB1.trans (hC.mono hz1)
      have hz2 := hB2.size
      have v1 := v1.below hC
      clear hC hB1 hz1
      go_wp2_with fail
      refine (twice_nv (k := 149) v2 (ten_thirty (big_24 (by omega))) (by omega) (Lib.hid rfl)).mono ?_
      rintro e' W3 ⟨A3, k3, c3, rfl, v3, hC⟩
      have hB3 := hB2.trans (hC.mono hz2)
      have hz3 := hB3.size
      have v1 := v1.below hC
      have v2 := v2.below hC
      clear hC hB2 hz2
      go_wp2_with fail
      refine (compare_nv v3 v1 (ten_thirty (big_149n (by omega))) (amt_big (by omega)) HC).mono ?_
      rintro e' w' ⟨rfl, nd3, rfl⟩
      have hB4 := below_drewN hB3 nd3
      have hz4 := hB4.size
      have v1 := v1.below (below_drewN (Below.refl _ _) nd3)
      have v2 := v2.below (below_drewN (Below.refl _ _) nd3)
      have v3 := v3.below (below_drewN (Below.refl _ _) nd3)
      clear hB3 hz3
      go_wp2_with fail
      refine (twice_nv (k := 1) v1 (amt_big (by omega)) (by omega) (Lib.hid rfl)).mono ?_
      rintro e' W5 ⟨A5, k5, c5, rfl, u1, hC⟩
      have hB5 := hB4.trans (hC.mono hz4)
      have hz5 := hB5.size
      have v1 := v1.below hC
      have v2 := v2.below hC
      have v3 := v3.below hC
      clear hC hB4 hz4
      go_wp2_with fail
      refine (of_nv K _ (Lib.hid (by omega))).mono ?_
      rintro e' W6 ⟨A6, k6, c6, rfl, u2, hC⟩
      have hB6 := hB5.trans (hC.mono hz5)
      have hz6 := hB6.size
      have v1 := v1.below hC
      have v2 := v2.below hC
      have v3 := v3.below hC
      have u1 := u1.below hC
      clear hC hB5 hz5
      go_wp2_with fail
      refine (twice_nv (k := 149) u2 (ten_thirty (big_24 (by omega))) (by omega) (Lib.hid rfl)).mono ?_
      rintro e' W7 ⟨A7, k7, c7, rfl, u3, hC⟩
      have hB7 := hB6.trans (hC.mono hz6)
      have hz7 := hB7.size
      have v1 := v1.below hC
      have v2 := v2.below hC
      have v3 := v3.below hC
      have u1 := u1.below hC
      have u2 := u2.below hC
      clear hC hB6 hz6
      go_wp2_with fail
      refine (compare_nv u1 u3 (two_p (amt_ten (by omega))) (ten_thirty (big_149n (by omega))) HV).mono ?_
      rintro e' w' ⟨rfl, nd7, rfl⟩
      have hB8 := below_drewN hB7 nd7
      have hz8 := hB8.size
      have v1 := v1.below (below_drewN (Below.refl _ _) nd7)
      have v2 := v2.below (below_drewN (Below.refl _ _) nd7)
      have v3 := v3.below (below_drewN (Below.refl _ _) nd7)
      have u1 := u1.below (below_drewN (Below.refl _ _) nd7)
      have u2 := u2.below (below_drewN (Below.refl _ _) nd7)
      have u3 := u3.below (below_drewN (Below.refl _ _) nd7)
      clear hB7 hz7
      go_wp2_with fail
      refine (of_nv N _ (Lib.hid (by omega))).mono ?_
      rintro e' W9 ⟨A9, k9, c9, rfl, v4, hC⟩
      have hB9 := hB8.trans (hC.mono hz8)
      have hz9 := hB9.size
      have v1 := v1.below hC
      have v2 := v2.below hC
      have v3 := v3.below hC
      have u1 := u1.below hC
      have u2 := u2.below hC
      have u3 := u3.below hC
      clear hC hB8 hz8
      go_wp2_with fail
      refine (twice_nv (k := 149) v4 (ten_thirty (big_24 (by omega))) (by omega) (Lib.hid rfl)).mono ?_
      rintro e' W10 ⟨A10, k10, c10, rfl, v5, hC⟩
      have hB10 := hB9.trans (hC.mono hz9)
      have hz10 := hB10.size
      have v1 := v1.below hC
      have v2 := v2.below hC
      have v3 := v3.below hC
      have u1 := u1.below hC
      have u2 := u2.below hC
      have u3 := u3.below hC
      have v4 := v4.below hC
      clear hC hB9 hz9
      go_wp2_with fail
      refine (of_nv 1 _ (Lib.hid (by decide))).mono ?_
      rintro e' W11 ⟨A11, k11, c11, rfl, v6, hC⟩
      have hB11 := hB10.trans (hC.mono hz10)
      have hz11 := hB11.size
      have v1 := v1.below hC
      have v2 := v2.below hC
      have v3 := v3.below hC
      have u1 := u1.below hC
      have u2 := u2.below hC
      have u3 := u3.below hC
      have v4 := v4.below hC
      have v5 := v5.below hC
      clear hC hB10 hz10
      go_wp2_with fail
      refine (rounded_any v5 v6 (Lib.hid (big_149n (by omega))) (Lib.hid big_1)).mono ?_
      rintro e' W12 ⟨rfl, hC⟩
      have hB12 := hB11.trans (hC.mono hz11)
      have hz12 := hB12.size
      clear hC hB11 hz11
      go_wp2
      go_ret
      exact ⟨by rw [HE.out]; try rfl, hB12⟩
  · have bv : (v == 0) = false := by rw [beq_eq_false_iff_ne]; exact v0c
    have HE : Hid (wholeP 2 a = rnd 0 sa (two 149 * N) 1) := Lib.hid (by
      rw [hE1, if_neg (by simp [v0c, v1c])]
      exact whole_fin (by omega))
    clear v0c
    clear hna hno hx hsa hex hbig hx0 hoE ob1 ob2 ob3 hs0 IA hnn hc hexa hlt0 hd p1 p2 p3 p4 hl0 hE0 hE1 hM hK hv
    go_enter Try.func29, Try.ntmps29
    have hB0 := Below.refl w.heap.size w
    have hz0 := hB0.size
    go_wp2_with fail
    refine (rnone_at h NA).mono ?_
    rintro e' w' ⟨rfl, rfl⟩
    go_wp2_with fail
    refine (rabs_at h HX).mono ?_
    rintro e' w' ⟨rfl, rfl⟩
    go_wp2_with fail
    refine (rbelow_at SA).mono ?_
    rintro e' w' ⟨rfl, rfl⟩
    go_wp2_with fail
    refine (rcut_any a _ h).mono ?_
    rintro e' w' ⟨-, hc, rfl⟩
    rw [hc (by have h1 := HXL.out; have h2 := HX.out; omega), HN.out]
    clear hc
    go_wp2_with fail
    refine (amount_nv x _ (by omega)).mono ?_
    rintro e' W1 ⟨A1, k1, c1, rfl, v1, hC⟩
    have hB1 := hB0.trans (hC.mono hz0)
    have hz1 := hB1.size
    clear hC hB0 hz0
    go_wp2_with fail
    refine (of_nv N _ (Lib.hid (by omega))).mono ?_
    rintro e' W2 ⟨A2, k2, c2, rfl, v2, hC⟩
    have hB2 := hB1.trans (hC.mono hz1)
    have hz2 := hB2.size
    have v1 := v1.below hC
    clear hC hB1 hz1
    go_wp2_with fail
    refine (twice_nv (k := 149) v2 (ten_thirty (big_24 (by omega))) (by omega) (Lib.hid rfl)).mono ?_
    rintro e' W3 ⟨A3, k3, c3, rfl, v3, hC⟩
    have hB3 := hB2.trans (hC.mono hz2)
    have hz3 := hB3.size
    have v1 := v1.below hC
    have v2 := v2.below hC
    clear hC hB2 hz2
    go_wp2_with fail
    refine (compare_nv v3 v1 (ten_thirty (big_149n (by omega))) (amt_big (by omega)) HC).mono ?_
    rintro e' w' ⟨rfl, nd3, rfl⟩
    have hB4 := below_drewN hB3 nd3
    have hz4 := hB4.size
    have v1 := v1.below (below_drewN (Below.refl _ _) nd3)
    have v2 := v2.below (below_drewN (Below.refl _ _) nd3)
    have v3 := v3.below (below_drewN (Below.refl _ _) nd3)
    clear hB3 hz3
    go_wp2_with fail
    refine (twice_nv (k := 1) v1 (amt_big (by omega)) (by omega) (Lib.hid rfl)).mono ?_
    rintro e' W5 ⟨A5, k5, c5, rfl, u1, hC⟩
    have hB5 := hB4.trans (hC.mono hz4)
    have hz5 := hB5.size
    have v1 := v1.below hC
    have v2 := v2.below hC
    have v3 := v3.below hC
    clear hC hB4 hz4
    go_wp2_with fail
    refine (of_nv K _ (Lib.hid (by omega))).mono ?_
    rintro e' W6 ⟨A6, k6, c6, rfl, u2, hC⟩
    have hB6 := hB5.trans (hC.mono hz5)
    have hz6 := hB6.size
    have v1 := v1.below hC
    have v2 := v2.below hC
    have v3 := v3.below hC
    have u1 := u1.below hC
    clear hC hB5 hz5
    go_wp2_with fail
    refine (twice_nv (k := 149) u2 (ten_thirty (big_24 (by omega))) (by omega) (Lib.hid rfl)).mono ?_
    rintro e' W7 ⟨A7, k7, c7, rfl, u3, hC⟩
    have hB7 := hB6.trans (hC.mono hz6)
    have hz7 := hB7.size
    have v1 := v1.below hC
    have v2 := v2.below hC
    have v3 := v3.below hC
    have u1 := u1.below hC
    have u2 := u2.below hC
    clear hC hB6 hz6
    go_wp2_with fail
    refine (compare_nv u1 u3 (two_p (amt_ten (by omega))) (ten_thirty (big_149n (by omega))) HV).mono ?_
    rintro e' w' ⟨rfl, nd7, rfl⟩
    have hB8 := below_drewN hB7 nd7
    have hz8 := hB8.size
    have v1 := v1.below (below_drewN (Below.refl _ _) nd7)
    have v2 := v2.below (below_drewN (Below.refl _ _) nd7)
    have v3 := v3.below (below_drewN (Below.refl _ _) nd7)
    have u1 := u1.below (below_drewN (Below.refl _ _) nd7)
    have u2 := u2.below (below_drewN (Below.refl _ _) nd7)
    have u3 := u3.below (below_drewN (Below.refl _ _) nd7)
    clear hB7 hz7
    go_wp2_with fail
    refine (of_nv N _ (Lib.hid (by omega))).mono ?_
    rintro e' W9 ⟨A9, k9, c9, rfl, v4, hC⟩
    have hB9 := hB8.trans (hC.mono hz8)
    have hz9 := hB9.size
    have v1 := v1.below hC
    have v2 := v2.below hC
    have v3 := v3.below hC
    have u1 := u1.below hC
    have u2 := u2.below hC
    have u3 := u3.below hC
    clear hC hB8 hz8
    go_wp2_with fail
    refine (twice_nv (k := 149) v4 (ten_thirty (big_24 (by omega))) (by omega) (Lib.hid rfl)).mono ?_
    rintro e' W10 ⟨A10, k10, c10, rfl, v5, hC⟩
    have hB10 := hB9.trans (hC.mono hz9)
    have hz10 := hB10.size
    have v1 := v1.below hC
    have v2 := v2.below hC
    have v3 := v3.below hC
    have u1 := u1.below hC
    have u2 := u2.below hC
    have u3 := u3.below hC
    have v4 := v4.below hC
    clear hC hB9 hz9
    go_wp2_with fail
    refine (of_nv 1 _ (Lib.hid (by decide))).mono ?_
    rintro e' W11 ⟨A11, k11, c11, rfl, v6, hC⟩
    have hB11 := hB10.trans (hC.mono hz10)
    have hz11 := hB11.size
    have v1 := v1.below hC
    have v2 := v2.below hC
    have v3 := v3.below hC
    have u1 := u1.below hC
    have u2 := u2.below hC
    have u3 := u3.below hC
    have v4 := v4.below hC
    have v5 := v5.below hC
    clear hC hB10 hz10
    go_wp2_with fail
    refine (rounded_any v5 v6 (Lib.hid (big_149n (by omega))) (Lib.hid big_1)).mono ?_
    rintro e' W12 ⟨rfl, hC⟩
    have hB12 := hB11.trans (hC.mono hz11)
    have hz12 := hB12.size
    clear hC hB11 hz11
    go_wp2
    go_ret
    exact ⟨by rw [HE.out]; try rfl, hB12⟩
end Go.Proofs.Ytanccobllehnaaa
