/- The law of a fused product and sum, and the document's FmaBy and Fma. -/
import Derived.Test.YtanccobllehnaaaRdP
import Derived.Test.YtanccobllehnaaaRdF
import Derived.Test.YtanccobllehnaaaRefM
import Derived.Test.YtanccobllehnaaaLooks
namespace Go.Proofs.Ytanccobllehnaaa
open Go.RowKit

theorem prod_rnd {way : Int} {s : Bool} {xe ye : Int} {xs ys i j : Nat} (hx : xs < 16777216) (hy : ys < 16777216) (hi : xe + 149 = (i : Int)) (hj : ye + 149 = (j : Int)) :
    roundP way s (xe + ye) (xs * ys) false = rnd way s (xs * ys * two (i + j)) (two 149) := by
  by_cases h0 : xs * ys = 0
  · rw [h0, Nat.zero_mul, rnd_zero way s (two_pos _)]
    unfold roundP
    rw [if_pos ⟨rfl, rfl⟩]
  · have hlt : xs * ys < 18446744073709551616 := by
      have h1 := Nat.mul_le_mul (show xs ≤ 16777215 by omega) (show ys ≤ 16777215 by omega)
      omega
    refine round_rnd (by omega) hlt (two_pos _) ?_
    unfold RV
    simp only [Bool.false_eq_true, if_false]
    rw [Nat.mul_assoc (xs * ys), ← two_add, ← two_add]
    congr 2
    omega
/-- a float's own amount, rounded, is the float -/
theorem rnd_self {way : Int} {c : Nat} (h : c < 4294967296) (hz : absP c < 2139095040) : rnd way (oN c) (two 149 * amt (absP c)) (two 149) = c := by
  have hc : IsCut (two 149 * amt (absP c)) (two 149) (absP c) := by
    refine ⟨by omega, by rw [Nat.mul_comm]; exact Nat.le_refl _, fun _ => ?_⟩
    rw [Nat.mul_comm (two 149)]
    exact Nat.mul_lt_mul_of_pos_right (amt_lt _) (two_pos _)
  unfold rnd
  rw [hc.eq]
  unfold rndM
  rw [if_neg (by omega), if_pos (.inl (Nat.mul_comm _ _))]
  unfold oN absP
  by_cases hs : 2147483648 ≤ c
  · rw [decide_eq_true hs]; show 2147483648 + c % 2147483648 = c; omega
  · rw [decide_eq_false hs]; show 0 + c % 2147483648 = c; omega
theorem fma_law (way : Int) {a b c : Nat} (h3 : c < 4294967296) (ha : absP a < 2139095040) (hb : absP b < 2139095040) (hc : absP c < 2139095040) :
    finP way (sgnX a b) c (oE a + oE b) (oS a * oS b) (oN c) (oE c) (oS c) =
      if amt (absP a) * amt (absP b) = 0 ∧ two 149 * amt (absP c) = 0 then (if oN c = sgnX a b then c else sgn (way == 2)) else sumW way (sgnX a b) (oN c) (amt (absP a) * amt (absP b)) (two 149 * amt (absP c)) := by
  obtain ⟨xa1, xa2, xa3⟩ := o_bounds a
  obtain ⟨xb1, xb2, xb3⟩ := o_bounds b
  obtain ⟨xc1, xc2, xc3⟩ := o_bounds c
  have fa := o_fin ha
  have fb := o_fin hb
  have fc := o_fin hc
  obtain ⟨i, hi⟩ : ∃ i : Nat, oE a + 149 = (i : Int) := ⟨(oE a + 149).toNat, by omega⟩
  obtain ⟨j, hj⟩ : ∃ i : Nat, oE b + 149 = (i : Int) := ⟨(oE b + 149).toNat, by omega⟩
  obtain ⟨k, hk⟩ : ∃ i : Nat, oE c + 149 = (i : Int) := ⟨(oE c + 149).toNat, by omega⟩
  have hX : amt (absP a) * amt (absP b) = oS a * oS b * two (i + j) := by
    rw [← ofin_amt, ← ofin_amt, show (oE a + 149).toNat = i from by omega, show (oE b + 149).toNat = j from by omega, two_add]
    generalize two i = p; generalize two j = q
    rw [Nat.mul_assoc, Nat.mul_assoc, Nat.mul_left_comm p]
  have hZ : two 149 * amt (absP c) = oS c * two (k + 149) := by
    rw [← ofin_amt, show (oE c + 149).toNat = k from by omega, two_add, Nat.mul_left_comm, Nat.mul_comm (two 149)]
  have hself := rnd_self (way := way) h3 hc
  have hpr := prod_rnd (way := way) (s := sgnX a b) xa1 xb1 hi hj
  have hlt : oS a * oS b < 18446744073709551616 := by
    have h1 := Nat.mul_le_mul (show oS a ≤ 16777215 by omega) (show oS b ≤ 16777215 by omega)
    omega
  have zX : oS a * oS b = 0 ↔ amt (absP a) * amt (absP b) = 0 := by
    rw [hX]
    constructor
    · intro h; rw [h, Nat.zero_mul]
    · intro h
      have := two_pos (i + j)
      rcases Nat.mul_eq_zero.1 h with h | h <;> omega
  have zZ : oS c = 0 ↔ two 149 * amt (absP c) = 0 := by
    rw [hZ]
    constructor
    · intro h; rw [h, Nat.zero_mul]
    · intro h
      have := two_pos (k + 149)
      rcases Nat.mul_eq_zero.1 h with h | h <;> omega
  rw [← hX] at hpr
  obtain ⟨X, hXX⟩ : ∃ X, amt (absP a) * amt (absP b) = X := ⟨_, rfl⟩
  obtain ⟨Z, hZZ⟩ : ∃ X, two 149 * amt (absP c) = X := ⟨_, rfl⟩
  rw [hXX] at hX zX hpr ⊢
  rw [hZZ] at hZ zZ hself ⊢
  unfold finP
  by_cases h0 : oS a * oS b = 0
  · by_cases h1 : oS c = 0
    · rw [if_pos (show oS a * oS b = 0 ∧ oS c = 0 from ⟨h0, h1⟩), if_pos (show X = 0 ∧ Z = 0 from ⟨zX.1 h0, zZ.1 h1⟩)]
    · have hz : ¬ Z = 0 := fun e => h1 (zZ.2 e)
      rw [if_neg (show ¬ (oS a * oS b = 0 ∧ oS c = 0) from fun h => h1 h.2), if_pos h0, if_neg (show ¬ (X = 0 ∧ Z = 0) from fun h => hz h.2), zX.1 h0]
      unfold sumW
      by_cases hn : sgnX a b = oN c
      · rw [if_pos hn, hn, Nat.zero_add, hself]
      · rw [if_neg hn, if_neg (show ¬ 0 = Z from fun e => hz e.symm), if_neg (show ¬ Z < 0 by omega), Nat.sub_zero, hself]
  · have hx : ¬ X = 0 := fun e => h0 (zX.2 e)
    rw [if_neg (show ¬ (oS a * oS b = 0 ∧ oS c = 0) from fun h => h0 h.1), if_neg h0, if_neg (show ¬ (X = 0 ∧ Z = 0) from fun h => hx h.1)]
    by_cases h1 : oS c = 0
    · rw [if_pos h1, hpr, zZ.1 h1]
      unfold sumW
      by_cases hn : sgnX a b = oN c
      · rw [if_pos hn, Nat.add_zero]
      · rw [if_neg hn, if_neg hx, if_pos (show 0 < X by omega), Nat.sub_zero]
    · rw [if_neg h1, sumF_law (i := i + j) (j := k + 149) (by omega) (by omega) hlt (by omega) (by omega) (by omega), ← hX, ← hZ]
theorem big_prod {x y : Nat} (hx : x ≤ 2139095040) (hy : y ≤ 2139095040) : amt x * amt y ≤ two 554 := by
  have h1 : amt x * amt y ≤ two 277 * two 277 := Nat.mul_le_mul (amt_le hx) (amt_le hy)
  rw [← two_add] at h1
  exact h1
theorem big_149a {z : Nat} (hz : z ≤ 2139095040) : two 149 * amt z ≤ two 426 := by
  have h1 : two 149 * amt z ≤ two 149 * two 277 := Nat.mul_le_mul_left _ (amt_le hz)
  rw [← two_add] at h1
  exact h1
theorem big_fsum {x y z : Nat} (hx : x ≤ 2139095040) (hy : y ≤ 2139095040) (hz : z ≤ 2139095040) : amt x * amt y + two 149 * amt z < two 10000 := by
  have h1 := big_prod hx hy
  have h2 := big_149a hz
  have h3 := two_le (show 426 ≤ 554 by omega)
  have h4 := two_le (show 554 + 1 + 1 ≤ 10000 by omega)
  have h5 := two_pos 554
  rw [two_succ, two_succ] at h4
  omega
theorem rmul_at {a b r : Nat} {w : World} (h : Hid (a < 4294967296)) (h' : Hid (b < 4294967296)) (hr : Hid (mulP 0 a b = r)) : Calls Try.prog 45 #[.int .i64 0, .int .u32 (a : Int), .int .u32 (b : Int)] w (BR w r) := by
  have := rmul_any 0 a b w h h'
  rw [hr.out] at this
  exact this
set_option maxRecDepth 100000 in
set_option maxHeartbeats 1600000 in
theorem rfma_any (way : Int) (a b c : Nat) (w : World) (h1 : Hid (a < 4294967296)) (h2 : Hid (b < 4294967296)) (h3 : Hid (c < 4294967296)) :
    Calls Try.prog 13 #[.int .i64 way, .int .u32 (a : Int), .int .u32 (b : Int), .int .u32 (c : Int)] w (BR w (fmaP way a b c)) := by
  obtain ⟨x, hx⟩ : ∃ x, absP a = x := ⟨_, rfl⟩
  obtain ⟨y, hy⟩ : ∃ y, absP b = y := ⟨_, rfl⟩
  obtain ⟨z, hz⟩ : ∃ y, absP c = y := ⟨_, rfl⟩
  obtain ⟨sa, hsa⟩ : ∃ s, decide (2147483648 ≤ a) = s := ⟨_, rfl⟩
  obtain ⟨sb, hsb⟩ : ∃ s, decide (2147483648 ≤ b) = s := ⟨_, rfl⟩
  obtain ⟨sc, hsc⟩ : ∃ s, decide (2147483648 ≤ c) = s := ⟨_, rfl⟩
  obtain ⟨sn, hsn⟩ : ∃ s, (sa != sb) = s := ⟨_, rfl⟩
  have hsn2 : (!(sa == sb)) = sn := hsn
  have hsg : sgnX a b = sn := by unfold sgnX; rw [hsa, hsb, hsn]
  have hoc : oN c = sc := hsc
  obtain ⟨m, hm⟩ : ∃ x, mulP 0 a b = x := ⟨_, rfl⟩
  have HML : Hid (m < 4294967296) := Lib.hid (by rw [← hm]; exact (okR.mul 0 a b).1)
  have HM := Lib.hid hm
  have HX := Lib.hid hx
  have HY := Lib.hid hy
  have HZ := Lib.hid hz
  have SA := Lib.hid hsa
  have SB := Lib.hid hsb
  have SC := Lib.hid hsc
  have hxi_cases : x = 2139095040 ∨ x ≠ 2139095040 := by omega
  cases hna : nanP a
  case true =>
    have NA := Lib.hid hna
    have HE : Hid (fmaP way a b c = 2143289344) := Lib.hid (by unfold fmaP; rw [if_pos (.inl hna)])
    have bx : ((x : Int) == 2139095040) = false := int_ne (fun e => by
      have := inf_nan (inf_abs.2 (hx.trans e))
      rw [hna] at this; cases this)
    obtain ⟨bi, hbi⟩ : ∃ q, ((y : Int) == 2139095040) = q := ⟨_, rfl⟩
    clear hna hm hx hy hz hsa hsb hsc hsg hoc hxi_cases
    go_enter Try.func13, Try.ntmps13
    have hB0 := Below.refl w.heap.size w
    have hz0 := hB0.size
    go_wp2_with fail
    refine (rmul_at h1 h2 HM).mono ?_
    rintro e' W1 ⟨rfl, hC⟩
    have hB1 := hB0.trans (hC.mono hz0)
    have hz1 := hB1.size
    clear hC hB0 hz0
    go_wp2_with fail
    refine (rbelow_at SA).mono ?_
    rintro e' w' ⟨rfl, rfl⟩
    go_wp2_with fail
    refine (rbelow_at SB).mono ?_
    rintro e' w' ⟨rfl, rfl⟩
    go_wp2_with fail
    refine (rabs_at h1 HX).mono ?_
    rintro e' w' ⟨rfl, rfl⟩
    go_wp2_with fail
    refine (rabs_at h2 HY).mono ?_
    rintro e' w' ⟨rfl, rfl⟩
    go_wp2_with fail
    refine (rnone_at h1 NA).mono ?_
    rintro e' w' ⟨rfl, rfl⟩
    go_wp2
    go_ret
    exact ⟨by rw [HE.out]; try rfl, hB1⟩
  have NA := Lib.hid hna
  cases hnb : nanP b
  case true =>
    have NB := Lib.hid hnb
    have HE : Hid (fmaP way a b c = 2143289344) := Lib.hid (by unfold fmaP; rw [if_pos (.inr (.inl hnb))])
    obtain ⟨bi, hbi⟩ : ∃ q, ((y : Int) == 2139095040) = q := ⟨_, rfl⟩
    rcases hxi_cases with hxi | hxi
    · have bx : ((x : Int) == 2139095040) = true := int_eq hxi
      clear hna hnb hm hx hy hz hsa hsb hsc hsg hoc hxi
      go_enter Try.func13, Try.ntmps13
      have hB0 := Below.refl w.heap.size w
      have hz0 := hB0.size
      go_wp2_with fail
      refine (rmul_at h1 h2 HM).mono ?_
      rintro e' W1 ⟨rfl, hC⟩
      have hB1 := hB0.trans (hC.mono hz0)
      have hz1 := hB1.size
      clear hC hB0 hz0
      go_wp2_with fail
      refine (rbelow_at SA).mono ?_
      rintro e' w' ⟨rfl, rfl⟩
      go_wp2_with fail
      refine (rbelow_at SB).mono ?_
      rintro e' w' ⟨rfl, rfl⟩
      go_wp2_with fail
      refine (rabs_at h1 HX).mono ?_
      rintro e' w' ⟨rfl, rfl⟩
      go_wp2_with fail
      refine (rnone_at h1 NA).mono ?_
      rintro e' w' ⟨rfl, rfl⟩
      go_wp2_with fail
      refine (rnone_at h2 NB).mono ?_
      rintro e' w' ⟨rfl, rfl⟩
      go_wp2
      go_ret
      exact ⟨by rw [HE.out]; try rfl, hB1⟩
    · have bx : ((x : Int) == 2139095040) = false := int_ne hxi
      clear hna hnb hm hx hy hz hsa hsb hsc hsg hoc hxi
      go_enter Try.func13, Try.ntmps13
      have hB0 := Below.refl w.heap.size w
      have hz0 := hB0.size
      go_wp2_with fail
      refine (rmul_at h1 h2 HM).mono ?_
      rintro e' W1 ⟨rfl, hC⟩
      have hB1 := hB0.trans (hC.mono hz0)
      have hz1 := hB1.size
      clear hC hB0 hz0
      go_wp2_with fail
      refine (rbelow_at SA).mono ?_
      rintro e' w' ⟨rfl, rfl⟩
      go_wp2_with fail
      refine (rbelow_at SB).mono ?_
      rintro e' w' ⟨rfl, rfl⟩
      go_wp2_with fail
      refine (rabs_at h1 HX).mono ?_
      rintro e' w' ⟨rfl, rfl⟩
      go_wp2_with fail
      refine (rabs_at h2 HY).mono ?_
      rintro e' w' ⟨rfl, rfl⟩
      go_wp2_with fail
      refine (rnone_at h1 NA).mono ?_
      rintro e' w' ⟨rfl, rfl⟩
      go_wp2_with fail
      refine (rnone_at h2 NB).mono ?_
      rintro e' w' ⟨rfl, rfl⟩
      go_wp2
      go_ret
      exact ⟨by rw [HE.out]; try rfl, hB1⟩
  have NB := Lib.hid hnb
  cases hnc : nanP c
  case true =>
    have NC := Lib.hid hnc
    have HE : Hid (fmaP way a b c = 2143289344) := Lib.hid (by unfold fmaP; rw [if_pos (.inr (.inr (.inl hnc)))])
    obtain ⟨bi, hbi⟩ : ∃ q, ((y : Int) == 2139095040) = q := ⟨_, rfl⟩
    rcases hxi_cases with hxi | hxi
    · have bx : ((x : Int) == 2139095040) = true := int_eq hxi
      clear hna hnb hnc hm hx hy hz hsa hsb hsc hsg hoc hxi
      go_enter Try.func13, Try.ntmps13
      have hB0 := Below.refl w.heap.size w
      have hz0 := hB0.size
      go_wp2_with fail
      refine (rmul_at h1 h2 HM).mono ?_
      rintro e' W1 ⟨rfl, hC⟩
      have hB1 := hB0.trans (hC.mono hz0)
      have hz1 := hB1.size
      clear hC hB0 hz0
      go_wp2_with fail
      refine (rbelow_at SA).mono ?_
      rintro e' w' ⟨rfl, rfl⟩
      go_wp2_with fail
      refine (rbelow_at SB).mono ?_
      rintro e' w' ⟨rfl, rfl⟩
      go_wp2_with fail
      refine (rabs_at h1 HX).mono ?_
      rintro e' w' ⟨rfl, rfl⟩
      go_wp2_with fail
      refine (rnone_at h1 NA).mono ?_
      rintro e' w' ⟨rfl, rfl⟩
      go_wp2_with fail
      refine (rnone_at h2 NB).mono ?_
      rintro e' w' ⟨rfl, rfl⟩
      go_wp2_with fail
      refine (rnone_at h3 NC).mono ?_
      rintro e' w' ⟨rfl, rfl⟩
      go_wp2
      go_ret
      exact ⟨by rw [HE.out]; try rfl, hB1⟩
    · have bx : ((x : Int) == 2139095040) = false := int_ne hxi
      clear hna hnb hnc hm hx hy hz hsa hsb hsc hsg hoc hxi
      go_enter Try.func13, Try.ntmps13
      have hB0 := Below.refl w.heap.size w
      have hz0 := hB0.size
      go_wp2_with fail
      refine (rmul_at h1 h2 HM).mono ?_
      rintro e' W1 ⟨rfl, hC⟩
      have hB1 := hB0.trans (hC.mono hz0)
      have hz1 := hB1.size
      clear hC hB0 hz0
      go_wp2_with fail
      refine (rbelow_at SA).mono ?_
      rintro e' w' ⟨rfl, rfl⟩
      go_wp2_with fail
      refine (rbelow_at SB).mono ?_
      rintro e' w' ⟨rfl, rfl⟩
      go_wp2_with fail
      refine (rabs_at h1 HX).mono ?_
      rintro e' w' ⟨rfl, rfl⟩
      go_wp2_with fail
      refine (rabs_at h2 HY).mono ?_
      rintro e' w' ⟨rfl, rfl⟩
      go_wp2_with fail
      refine (rnone_at h1 NA).mono ?_
      rintro e' w' ⟨rfl, rfl⟩
      go_wp2_with fail
      refine (rnone_at h2 NB).mono ?_
      rintro e' w' ⟨rfl, rfl⟩
      go_wp2_with fail
      refine (rnone_at h3 NC).mono ?_
      rintro e' w' ⟨rfl, rfl⟩
      go_wp2
      go_ret
      exact ⟨by rw [HE.out]; try rfl, hB1⟩
  have NC := Lib.hid hnc
  cases hnm : nanP m
  case true =>
    have NM := Lib.hid hnm
    have HE : Hid (fmaP way a b c = 2143289344) := Lib.hid (by unfold fmaP; rw [if_pos (.inr (.inr (.inr (by rw [hm]; exact hnm))))])
    obtain ⟨bi, hbi⟩ : ∃ q, ((y : Int) == 2139095040) = q := ⟨_, rfl⟩
    rcases hxi_cases with hxi | hxi
    · have bx : ((x : Int) == 2139095040) = true := int_eq hxi
      clear hna hnb hnc hnm hm hx hy hz hsa hsb hsc hsg hoc hxi
      go_enter Try.func13, Try.ntmps13
      have hB0 := Below.refl w.heap.size w
      have hz0 := hB0.size
      go_wp2_with fail
      refine (rmul_at h1 h2 HM).mono ?_
      rintro e' W1 ⟨rfl, hC⟩
      have hB1 := hB0.trans (hC.mono hz0)
      have hz1 := hB1.size
      clear hC hB0 hz0
      go_wp2_with fail
      refine (rbelow_at SA).mono ?_
      rintro e' w' ⟨rfl, rfl⟩
      go_wp2_with fail
      refine (rbelow_at SB).mono ?_
      rintro e' w' ⟨rfl, rfl⟩
      go_wp2_with fail
      refine (rabs_at h1 HX).mono ?_
      rintro e' w' ⟨rfl, rfl⟩
      go_wp2_with fail
      refine (rnone_at h1 NA).mono ?_
      rintro e' w' ⟨rfl, rfl⟩
      go_wp2_with fail
      refine (rnone_at h2 NB).mono ?_
      rintro e' w' ⟨rfl, rfl⟩
      go_wp2_with fail
      refine (rnone_at h3 NC).mono ?_
      rintro e' w' ⟨rfl, rfl⟩
      go_wp2_with fail
      refine (rnone_at HML NM).mono ?_
      rintro e' w' ⟨rfl, rfl⟩
      go_wp2
      go_ret
      exact ⟨by rw [HE.out]; try rfl, hB1⟩
    · have bx : ((x : Int) == 2139095040) = false := int_ne hxi
      clear hna hnb hnc hnm hm hx hy hz hsa hsb hsc hsg hoc hxi
      go_enter Try.func13, Try.ntmps13
      have hB0 := Below.refl w.heap.size w
      have hz0 := hB0.size
      go_wp2_with fail
      refine (rmul_at h1 h2 HM).mono ?_
      rintro e' W1 ⟨rfl, hC⟩
      have hB1 := hB0.trans (hC.mono hz0)
      have hz1 := hB1.size
      clear hC hB0 hz0
      go_wp2_with fail
      refine (rbelow_at SA).mono ?_
      rintro e' w' ⟨rfl, rfl⟩
      go_wp2_with fail
      refine (rbelow_at SB).mono ?_
      rintro e' w' ⟨rfl, rfl⟩
      go_wp2_with fail
      refine (rabs_at h1 HX).mono ?_
      rintro e' w' ⟨rfl, rfl⟩
      go_wp2_with fail
      refine (rabs_at h2 HY).mono ?_
      rintro e' w' ⟨rfl, rfl⟩
      go_wp2_with fail
      refine (rnone_at h1 NA).mono ?_
      rintro e' w' ⟨rfl, rfl⟩
      go_wp2_with fail
      refine (rnone_at h2 NB).mono ?_
      rintro e' w' ⟨rfl, rfl⟩
      go_wp2_with fail
      refine (rnone_at h3 NC).mono ?_
      rintro e' w' ⟨rfl, rfl⟩
      go_wp2_with fail
      refine (rnone_at HML NM).mono ?_
      rintro e' w' ⟨rfl, rfl⟩
      go_wp2
      go_ret
      exact ⟨by rw [HE.out]; try rfl, hB1⟩
  have NM := Lib.hid hnm
  have hno : ¬ (nanP a = true ∨ nanP b = true ∨ nanP c = true ∨ nanP (mulP 0 a b) = true) := by rw [hna, hnb, hnc, hm, hnm]; simp
  by_cases hmany : x = 2139095040 ∨ y = 2139095040
  case pos =>
    have hinf : infP a = true ∨ infP b = true := by
      rcases hmany with h | h
      · exact .inl (inf_abs.2 (hx.trans h))
      · exact .inr (inf_abs.2 (hy.trans h))
    have hmi : m = sgn sn + 2139095040 := by
      rw [← hm, ← hsg]
      refine mul_inf 0 hna hnb ?_
      have hnn : ¬ mulP 0 a b = 2143289344 := by
        intro e
        rw [hm] at e
        rw [e] at hnm
        exact absurd hnm (by decide)
      rcases hinf with h | h
      · by_cases h0 : absP b = 0
        · exact absurd (mul_none 0 (.inl ⟨h, hnb, h0⟩)) hnn
        · exact .inl ⟨h, h0⟩
      · by_cases h0 : absP a = 0
        · exact absurd (mul_none 0 (.inr ⟨h, hna, h0⟩)) hnn
        · exact .inr ⟨h, h0⟩
    have hE : fmaP way a b c = if z = 2139095040 ∧ sc ≠ sn then 2143289344 else m := by
      unfold fmaP
      rw [if_neg hno, if_pos hinf, hsg, ← hmi]
      by_cases hzi : z = 2139095040
      · have hci : infP c = true := inf_abs.2 (hz.trans hzi)
        have hcv : c = sgn sc + 2139095040 := by
          unfold absP at hz
          have := h3.out
          rw [← hsc]
          by_cases hs : 2147483648 ≤ c
          · rw [decide_eq_true hs]; show c = 2147483648 + 2139095040; omega
          · rw [decide_eq_false hs]; show c = 0 + 2139095040; omega
        by_cases hss : sc = sn
        · rw [if_neg (by rw [hmi, hcv, hss]; simp), if_neg (by simp [hss])]
        · have hcm : c ≠ m := by
            rw [hmi, hcv]
            revert hss
            cases sc <;> cases sn <;> simp [sgn]
          rw [if_pos ⟨hci, hcm⟩, if_pos ⟨hzi, hss⟩]
      · have hci : infP c = false := by
          cases h : infP c
          · rfl
          · exact absurd (hz.symm.trans (inf_abs.1 h)) hzi
        rw [if_neg (by rw [hci]; simp), if_neg (fun h => hzi h.1)]
    have HE0 := Lib.hid hE
    clear hE hmi hinf hno hnm hna hnb hnc hm hx hy hz hsa hsb hsc hsg hoc
    by_cases hzi : z = 2139095040
    · have bz : ((z : Int) == 2139095040) = true := int_eq hzi
      by_cases hss : sc = sn
      · have bs : (sc != sn) = false := by rw [hss]; simp
        have bs2 : (!(sc == sn)) = false := bs
        have HE : Hid (fmaP way a b c = m) := Lib.hid (by rw [HE0.out, if_neg (fun h => h.2 hss)])
        clear HE0 hss hzi
        rcases hxi_cases with hxi | hxi
        · have bx : ((x : Int) == 2139095040) = true := int_eq hxi
          clear hxi hmany
          go_enter Try.func13, Try.ntmps13
          have hB0 := Below.refl w.heap.size w
          have hz0 := hB0.size
          go_wp2_with fail
          refine (rmul_at h1 h2 HM).mono ?_
          rintro e' W1 ⟨rfl, hC⟩
          have hB1 := hB0.trans (hC.mono hz0)
          have hz1 := hB1.size
          clear hC hB0 hz0
          go_wp2_with fail
          refine (rbelow_at SA).mono ?_
          rintro e' w' ⟨rfl, rfl⟩
          go_wp2_with fail
          refine (rbelow_at SB).mono ?_
          rintro e' w' ⟨rfl, rfl⟩
          go_wp2_with fail
          refine (rabs_at h1 HX).mono ?_
          rintro e' w' ⟨rfl, rfl⟩
          go_wp2_with fail
          refine (rnone_at h1 NA).mono ?_
          rintro e' w' ⟨rfl, rfl⟩
          go_wp2_with fail
          refine (rnone_at h2 NB).mono ?_
          rintro e' w' ⟨rfl, rfl⟩
          go_wp2_with fail
          refine (rnone_at h3 NC).mono ?_
          rintro e' w' ⟨rfl, rfl⟩
          go_wp2_with fail
          refine (rnone_at HML NM).mono ?_
          rintro e' w' ⟨rfl, rfl⟩
          go_wp2_with fail
          refine (rabs_at h3 HZ).mono ?_
          rintro e' w' ⟨rfl, rfl⟩
          go_wp2_with fail
          refine (rbelow_at SC).mono ?_
          rintro e' w' ⟨rfl, rfl⟩
          go_wp2
          go_ret
          exact ⟨by rw [HE.out]; try rfl, hB1⟩
        · have bx : ((x : Int) == 2139095040) = false := int_ne hxi
          have by' : ((y : Int) == 2139095040) = true := int_eq (hmany.resolve_left hxi)
          clear hxi hmany
          go_enter Try.func13, Try.ntmps13
          have hB0 := Below.refl w.heap.size w
          have hz0 := hB0.size
          go_wp2_with fail
          refine (rmul_at h1 h2 HM).mono ?_
          rintro e' W1 ⟨rfl, hC⟩
          have hB1 := hB0.trans (hC.mono hz0)
          have hz1 := hB1.size
          clear hC hB0 hz0
          go_wp2_with fail
          refine (rbelow_at SA).mono ?_
          rintro e' w' ⟨rfl, rfl⟩
          go_wp2_with fail
          refine (rbelow_at SB).mono ?_
          rintro e' w' ⟨rfl, rfl⟩
          go_wp2_with fail
          refine (rabs_at h1 HX).mono ?_
          rintro e' w' ⟨rfl, rfl⟩
          go_wp2_with fail
          refine (rabs_at h2 HY).mono ?_
          rintro e' w' ⟨rfl, rfl⟩
          go_wp2_with fail
          refine (rnone_at h1 NA).mono ?_
          rintro e' w' ⟨rfl, rfl⟩
          go_wp2_with fail
          refine (rnone_at h2 NB).mono ?_
          rintro e' w' ⟨rfl, rfl⟩
          go_wp2_with fail
          refine (rnone_at h3 NC).mono ?_
          rintro e' w' ⟨rfl, rfl⟩
          go_wp2_with fail
          refine (rnone_at HML NM).mono ?_
          rintro e' w' ⟨rfl, rfl⟩
          go_wp2_with fail
          refine (rabs_at h3 HZ).mono ?_
          rintro e' w' ⟨rfl, rfl⟩
          go_wp2_with fail
          refine (rbelow_at SC).mono ?_
          rintro e' w' ⟨rfl, rfl⟩
          go_wp2
          go_ret
          exact ⟨by rw [HE.out]; try rfl, hB1⟩
      · have bs : (sc != sn) = true := by rw [bne_iff_ne]; exact hss
        have bs2 : (!(sc == sn)) = true := bs
        have HE : Hid (fmaP way a b c = 2143289344) := Lib.hid (by rw [HE0.out, if_pos ⟨hzi, hss⟩])
        clear HE0 hss hzi
        rcases hxi_cases with hxi | hxi
        · have bx : ((x : Int) == 2139095040) = true := int_eq hxi
          clear hxi hmany
          go_enter Try.func13, Try.ntmps13
          have hB0 := Below.refl w.heap.size w
          have hz0 := hB0.size
          go_wp2_with fail
          refine (rmul_at h1 h2 HM).mono ?_
          rintro e' W1 ⟨rfl, hC⟩
          have hB1 := hB0.trans (hC.mono hz0)
          have hz1 := hB1.size
          clear hC hB0 hz0
          go_wp2_with fail
          refine (rbelow_at SA).mono ?_
          rintro e' w' ⟨rfl, rfl⟩
          go_wp2_with fail
          refine (rbelow_at SB).mono ?_
          rintro e' w' ⟨rfl, rfl⟩
          go_wp2_with fail
          refine (rabs_at h1 HX).mono ?_
          rintro e' w' ⟨rfl, rfl⟩
          go_wp2_with fail
          refine (rnone_at h1 NA).mono ?_
          rintro e' w' ⟨rfl, rfl⟩
          go_wp2_with fail
          refine (rnone_at h2 NB).mono ?_
          rintro e' w' ⟨rfl, rfl⟩
          go_wp2_with fail
          refine (rnone_at h3 NC).mono ?_
          rintro e' w' ⟨rfl, rfl⟩
          go_wp2_with fail
          refine (rnone_at HML NM).mono ?_
          rintro e' w' ⟨rfl, rfl⟩
          go_wp2_with fail
          refine (rabs_at h3 HZ).mono ?_
          rintro e' w' ⟨rfl, rfl⟩
          go_wp2_with fail
          refine (rbelow_at SC).mono ?_
          rintro e' w' ⟨rfl, rfl⟩
          go_wp2
          go_ret
          exact ⟨by rw [HE.out]; try rfl, hB1⟩
        · have bx : ((x : Int) == 2139095040) = false := int_ne hxi
          have by' : ((y : Int) == 2139095040) = true := int_eq (hmany.resolve_left hxi)
          clear hxi hmany
          go_enter Try.func13, Try.ntmps13
          have hB0 := Below.refl w.heap.size w
          have hz0 := hB0.size
          go_wp2_with fail
          refine (rmul_at h1 h2 HM).mono ?_
          rintro e' W1 ⟨rfl, hC⟩
          have hB1 := hB0.trans (hC.mono hz0)
          have hz1 := hB1.size
          clear hC hB0 hz0
          go_wp2_with fail
          refine (rbelow_at SA).mono ?_
          rintro e' w' ⟨rfl, rfl⟩
          go_wp2_with fail
          refine (rbelow_at SB).mono ?_
          rintro e' w' ⟨rfl, rfl⟩
          go_wp2_with fail
          refine (rabs_at h1 HX).mono ?_
          rintro e' w' ⟨rfl, rfl⟩
          go_wp2_with fail
          refine (rabs_at h2 HY).mono ?_
          rintro e' w' ⟨rfl, rfl⟩
          go_wp2_with fail
          refine (rnone_at h1 NA).mono ?_
          rintro e' w' ⟨rfl, rfl⟩
          go_wp2_with fail
          refine (rnone_at h2 NB).mono ?_
          rintro e' w' ⟨rfl, rfl⟩
          go_wp2_with fail
          refine (rnone_at h3 NC).mono ?_
          rintro e' w' ⟨rfl, rfl⟩
          go_wp2_with fail
          refine (rnone_at HML NM).mono ?_
          rintro e' w' ⟨rfl, rfl⟩
          go_wp2_with fail
          refine (rabs_at h3 HZ).mono ?_
          rintro e' w' ⟨rfl, rfl⟩
          go_wp2_with fail
          refine (rbelow_at SC).mono ?_
          rintro e' w' ⟨rfl, rfl⟩
          go_wp2
          go_ret
          exact ⟨by rw [HE.out]; try rfl, hB1⟩
    · have bz : ((z : Int) == 2139095040) = false := int_ne hzi
      have HE : Hid (fmaP way a b c = m) := Lib.hid (by rw [HE0.out, if_neg (fun h => hzi h.1)])
      clear HE0 hzi
      rcases hxi_cases with hxi | hxi
      · have bx : ((x : Int) == 2139095040) = true := int_eq hxi
        clear hxi hmany
        go_enter Try.func13, Try.ntmps13
        have hB0 := Below.refl w.heap.size w
        have hz0 := hB0.size
        go_wp2_with fail
        refine (rmul_at h1 h2 HM).mono ?_
        rintro e' W1 ⟨rfl, hC⟩
        have hB1 := hB0.trans (hC.mono hz0)
        have hz1 := hB1.size
        clear hC hB0 hz0
        go_wp2_with fail
        refine (rbelow_at SA).mono ?_
        rintro e' w' ⟨rfl, rfl⟩
        go_wp2_with fail
        refine (rbelow_at SB).mono ?_
        rintro e' w' ⟨rfl, rfl⟩
        go_wp2_with fail
        refine (rabs_at h1 HX).mono ?_
        rintro e' w' ⟨rfl, rfl⟩
        go_wp2_with fail
        refine (rnone_at h1 NA).mono ?_
        rintro e' w' ⟨rfl, rfl⟩
        go_wp2_with fail
        refine (rnone_at h2 NB).mono ?_
        rintro e' w' ⟨rfl, rfl⟩
        go_wp2_with fail
        refine (rnone_at h3 NC).mono ?_
        rintro e' w' ⟨rfl, rfl⟩
        go_wp2_with fail
        refine (rnone_at HML NM).mono ?_
        rintro e' w' ⟨rfl, rfl⟩
        go_wp2_with fail
        refine (rabs_at h3 HZ).mono ?_
        rintro e' w' ⟨rfl, rfl⟩
        go_wp2
        go_ret
        exact ⟨by rw [HE.out]; try rfl, hB1⟩
      · have bx : ((x : Int) == 2139095040) = false := int_ne hxi
        have by' : ((y : Int) == 2139095040) = true := int_eq (hmany.resolve_left hxi)
        clear hxi hmany
        go_enter Try.func13, Try.ntmps13
        have hB0 := Below.refl w.heap.size w
        have hz0 := hB0.size
        go_wp2_with fail
        refine (rmul_at h1 h2 HM).mono ?_
        rintro e' W1 ⟨rfl, hC⟩
        have hB1 := hB0.trans (hC.mono hz0)
        have hz1 := hB1.size
        clear hC hB0 hz0
        go_wp2_with fail
        refine (rbelow_at SA).mono ?_
        rintro e' w' ⟨rfl, rfl⟩
        go_wp2_with fail
        refine (rbelow_at SB).mono ?_
        rintro e' w' ⟨rfl, rfl⟩
        go_wp2_with fail
        refine (rabs_at h1 HX).mono ?_
        rintro e' w' ⟨rfl, rfl⟩
        go_wp2_with fail
        refine (rabs_at h2 HY).mono ?_
        rintro e' w' ⟨rfl, rfl⟩
        go_wp2_with fail
        refine (rnone_at h1 NA).mono ?_
        rintro e' w' ⟨rfl, rfl⟩
        go_wp2_with fail
        refine (rnone_at h2 NB).mono ?_
        rintro e' w' ⟨rfl, rfl⟩
        go_wp2_with fail
        refine (rnone_at h3 NC).mono ?_
        rintro e' w' ⟨rfl, rfl⟩
        go_wp2_with fail
        refine (rnone_at HML NM).mono ?_
        rintro e' w' ⟨rfl, rfl⟩
        go_wp2_with fail
        refine (rabs_at h3 HZ).mono ?_
        rintro e' w' ⟨rfl, rfl⟩
        go_wp2
        go_ret
        exact ⟨by rw [HE.out]; try rfl, hB1⟩
  have hxi : ¬ x = 2139095040 := fun h => hmany (.inl h)
  have hyi : ¬ y = 2139095040 := fun h => hmany (.inr h)
  have IA : infP a = false := by
    cases h : infP a
    · rfl
    · exact absurd (hx.symm.trans (inf_abs.1 h)) hxi
  have IB : infP b = false := by
    cases h : infP b
    · rfl
    · exact absurd (hy.symm.trans (inf_abs.1 h)) hyi
  have bx : ((x : Int) == 2139095040) = false := int_ne hxi
  have by' : ((y : Int) == 2139095040) = false := int_ne hyi
  have hno2 : ¬ (infP a = true ∨ infP b = true) := by rw [IA, IB]; simp
  by_cases hzi : z = 2139095040
  case pos =>
    have hci : infP c = true := inf_abs.2 (hz.trans hzi)
    have HE : Hid (fmaP way a b c = c) := Lib.hid (by unfold fmaP; rw [if_neg hno, if_neg hno2, if_pos hci])
    have bz : ((z : Int) == 2139095040) = true := int_eq hzi
    clear hno hno2 hnm hna hnb hnc hm hx hy hz hsa hsb hsc hsg hoc hxi hyi IA IB hci hzi hmany hxi_cases
    go_enter Try.func13, Try.ntmps13
    have hB0 := Below.refl w.heap.size w
    have hz0 := hB0.size
    go_wp2_with fail
    refine (rmul_at h1 h2 HM).mono ?_
    rintro e' W1 ⟨rfl, hC⟩
    have hB1 := hB0.trans (hC.mono hz0)
    have hz1 := hB1.size
    clear hC hB0 hz0
    go_wp2_with fail
    refine (rbelow_at SA).mono ?_
    rintro e' w' ⟨rfl, rfl⟩
    go_wp2_with fail
    refine (rbelow_at SB).mono ?_
    rintro e' w' ⟨rfl, rfl⟩
    go_wp2_with fail
    refine (rabs_at h1 HX).mono ?_
    rintro e' w' ⟨rfl, rfl⟩
    go_wp2_with fail
    refine (rabs_at h2 HY).mono ?_
    rintro e' w' ⟨rfl, rfl⟩
    go_wp2_with fail
    refine (rnone_at h1 NA).mono ?_
    rintro e' w' ⟨rfl, rfl⟩
    go_wp2_with fail
    refine (rnone_at h2 NB).mono ?_
    rintro e' w' ⟨rfl, rfl⟩
    go_wp2_with fail
    refine (rnone_at h3 NC).mono ?_
    rintro e' w' ⟨rfl, rfl⟩
    go_wp2_with fail
    refine (rnone_at HML NM).mono ?_
    rintro e' w' ⟨rfl, rfl⟩
    go_wp2_with fail
    refine (rabs_at h3 HZ).mono ?_
    rintro e' w' ⟨rfl, rfl⟩
    go_wp2
    go_ret
    exact ⟨by rw [HE.out]; try rfl, hB1⟩
  have bz : ((z : Int) == 2139095040) = false := int_ne hzi
  have IC : infP c = false := by
    cases h : infP c
    · rfl
    · exact absurd (hz.symm.trans (inf_abs.1 h)) hzi
  have lx := fin_abs hna IA
  have ly := fin_abs hnb IB
  have lz := fin_abs hnc IC
  have hl : fmaP way a b c = if amt x * amt y = 0 ∧ two 149 * amt z = 0 then (if sc = sn then c else sgn (way == 2)) else sumW way sn sc (amt x * amt y) (two 149 * amt z) := by
    unfold fmaP
    rw [if_neg hno, if_neg hno2, if_neg (by rw [IC]; simp), fma_law way h3.out lx ly lz, hx, hy, hz, hsg, hoc]
  rw [hx] at lx
  rw [hy] at ly
  rw [hz] at lz
  clear hno hno2 hnm hna hnb hnc hm hx hy hz hsa hsb hsc hsg hoc hxi hyi hzi IA IB IC hmany hxi_cases
  obtain ⟨X, hX⟩ : ∃ v, amt x * amt y = v := ⟨_, rfl⟩
  obtain ⟨Z, hZ⟩ : ∃ v, two 149 * amt z = v := ⟨_, rfl⟩
  have HXB : Hid (X < two 10000) := Lib.hid (by rw [← hX]; exact amt_amt (by omega) (by omega))
  have HZB : Hid (Z < two 10000) := Lib.hid (by rw [← hZ]; exact amt_149 (by omega))
  have HSB : Hid (X + Z < two 10000) := Lib.hid (by rw [← hX, ← hZ]; exact big_fsum (by omega) (by omega) (by omega))
  rw [hX, hZ] at hl
  have HXX := Lib.hid hX
  have HZZ := Lib.hid hZ
  clear hX hZ
  by_cases hss : sn = sc
  case pos =>
    have bss : (sn == sc) = true := by rw [hss]; simp
    by_cases hx0 : X = 0
    · by_cases hz0 : Z = 0
      · have HE : Hid (fmaP way a b c = c) := Lib.hid (by rw [hl, if_pos ⟨hx0, hz0⟩, if_pos hss.symm])
        have X0 := Lib.hid hx0
        have Z0 := Lib.hid hz0
        clear hl hss hx0 hz0
        go_enter Try.func13, Try.ntmps13
        have hB0 := Below.refl w.heap.size w
        have hz0 := hB0.size
        go_wp2_with fail
        refine (rmul_at h1 h2 HM).mono ?_
        rintro e' W1 ⟨rfl, hC⟩
        have hB1 := hB0.trans (hC.mono hz0)
        have hz1 := hB1.size
        clear hC hB0 hz0
        go_wp2_with fail
        refine (rbelow_at SA).mono ?_
        rintro e' w' ⟨rfl, rfl⟩
        go_wp2_with fail
        refine (rbelow_at SB).mono ?_
        rintro e' w' ⟨rfl, rfl⟩
        go_wp2_with fail
        refine (rabs_at h1 HX).mono ?_
        rintro e' w' ⟨rfl, rfl⟩
        go_wp2_with fail
        refine (rabs_at h2 HY).mono ?_
        rintro e' w' ⟨rfl, rfl⟩
        go_wp2_with fail
        refine (rnone_at h1 NA).mono ?_
        rintro e' w' ⟨rfl, rfl⟩
        go_wp2_with fail
        refine (rnone_at h2 NB).mono ?_
        rintro e' w' ⟨rfl, rfl⟩
        go_wp2_with fail
        refine (rnone_at h3 NC).mono ?_
        rintro e' w' ⟨rfl, rfl⟩
        go_wp2_with fail
        refine (rnone_at HML NM).mono ?_
        rintro e' w' ⟨rfl, rfl⟩
        go_wp2_with fail
        refine (rabs_at h3 HZ).mono ?_
        rintro e' w' ⟨rfl, rfl⟩
        go_wp2_with fail
        refine (rabs_at h1 HX).mono ?_
        rintro e' w' ⟨rfl, rfl⟩
        go_wp2_with fail
        refine (amount_nv x _ (by omega)).mono ?_
        rintro e' W2 ⟨A2, k2, c2, rfl, v1, hC⟩
        have hB2 := hB1.trans (hC.mono hz1)
        have hz2 := hB2.size
        clear hC hB1 hz1
        go_wp2_with fail
        refine (rabs_at h2 HY).mono ?_
        rintro e' w' ⟨rfl, rfl⟩
        go_wp2_with fail
        refine (amount_nv y _ (by omega)).mono ?_
        rintro e' W3 ⟨A3, k3, c3, rfl, v2, hC⟩
        have hB3 := hB2.trans (hC.mono hz2)
        have hz3 := hB3.size
        have v1 := v1.below hC
        clear hC hB2 hz2
        go_wp2_with fail
        refine (times_nv v1 v2 (amt_big (by omega)) (amt_big (by omega)) HXX).mono ?_
        rintro e' W4 ⟨A4, k4, c4, rfl, v3, hC⟩
        have hB4 := hB3.trans (hC.mono hz3)
        have hz4 := hB4.size
        have v1 := v1.below hC
        have v2 := v2.below hC
        clear hC hB3 hz3
        go_wp2_with fail
        refine (rabs_at h3 HZ).mono ?_
        rintro e' w' ⟨rfl, rfl⟩
        go_wp2_with fail
        refine (amount_nv z _ (by omega)).mono ?_
        rintro e' W5 ⟨A5, k5, c5, rfl, v4, hC⟩
        have hB5 := hB4.trans (hC.mono hz4)
        have hz5 := hB5.size
        have v1 := v1.below hC
        have v2 := v2.below hC
        have v3 := v3.below hC
        clear hC hB4 hz4
        go_wp2_with fail
        refine (twice_nv (k := 149) v4 (amt_big (by omega)) (by omega) HZZ).mono ?_
        rintro e' W6 ⟨A6, k6, c6, rfl, v5, hC⟩
        have hB6 := hB5.trans (hC.mono hz5)
        have hz6 := hB6.size
        have v1 := v1.below hC
        have v2 := v2.below hC
        have v3 := v3.below hC
        have v4 := v4.below hC
        clear hC hB5 hz5
        go_wp2_with fail
        refine (of_nv 1 _ (Lib.hid (by decide))).mono ?_
        rintro e' W7 ⟨A7, k7, c7, rfl, v6, hC⟩
        have hB7 := hB6.trans (hC.mono hz6)
        have hz7 := hB7.size
        have v1 := v1.below hC
        have v2 := v2.below hC
        have v3 := v3.below hC
        have v4 := v4.below hC
        have v5 := v5.below hC
        clear hC hB6 hz6
        go_wp2_with fail
        refine (twice_nv (k := 149) v6 (ten_thirty big_1) (by omega) (Lib.hid (Nat.mul_one (two 149)))).mono ?_
        rintro e' W8 ⟨A8, k8, c8, rfl, v7, hC⟩
        have hB8 := hB7.trans (hC.mono hz7)
        have hz8 := hB8.size
        have v1 := v1.below hC
        have v2 := v2.below hC
        have v3 := v3.below hC
        have v4 := v4.below hC
        have v5 := v5.below hC
        have v6 := v6.below hC
        clear hC hB7 hz7
        go_wp2_with fail
        refine (rbelow_at SC).mono ?_
        rintro e' w' ⟨rfl, rfl⟩
        have l1 := nil_len v3 X0.out
        have l2 := nil_len v5 Z0.out
        go_wp2
        go_ret
        exact ⟨by rw [HE.out]; try rfl, hB8⟩
      · have HE : Hid (fmaP way a b c = rnd way sn (X + Z) (two 149)) := Lib.hid (by rw [hl, if_neg (fun h => hz0 h.2)]; unfold sumW; rw [if_pos hss])
        have X0 := Lib.hid hx0
        have Z0 := Lib.hid hz0
        clear hl hss hx0 hz0
        go_enter Try.func13, Try.ntmps13
        have hB0 := Below.refl w.heap.size w
        have hz0 := hB0.size
        go_wp2_with fail
        refine (rmul_at h1 h2 HM).mono ?_
        rintro e' W1 ⟨rfl, hC⟩
        have hB1 := hB0.trans (hC.mono hz0)
        have hz1 := hB1.size
        clear hC hB0 hz0
        go_wp2_with fail
        refine (rbelow_at SA).mono ?_
        rintro e' w' ⟨rfl, rfl⟩
        go_wp2_with fail
        refine (rbelow_at SB).mono ?_
        rintro e' w' ⟨rfl, rfl⟩
        go_wp2_with fail
        refine (rabs_at h1 HX).mono ?_
        rintro e' w' ⟨rfl, rfl⟩
        go_wp2_with fail
        refine (rabs_at h2 HY).mono ?_
        rintro e' w' ⟨rfl, rfl⟩
        go_wp2_with fail
        refine (rnone_at h1 NA).mono ?_
        rintro e' w' ⟨rfl, rfl⟩
        go_wp2_with fail
        refine (rnone_at h2 NB).mono ?_
        rintro e' w' ⟨rfl, rfl⟩
        go_wp2_with fail
        refine (rnone_at h3 NC).mono ?_
        rintro e' w' ⟨rfl, rfl⟩
        go_wp2_with fail
        refine (rnone_at HML NM).mono ?_
        rintro e' w' ⟨rfl, rfl⟩
        go_wp2_with fail
        refine (rabs_at h3 HZ).mono ?_
        rintro e' w' ⟨rfl, rfl⟩
        go_wp2_with fail
        refine (rabs_at h1 HX).mono ?_
        rintro e' w' ⟨rfl, rfl⟩
        go_wp2_with fail
        refine (amount_nv x _ (by omega)).mono ?_
        rintro e' W2 ⟨A2, k2, c2, rfl, v1, hC⟩
        have hB2 := hB1.trans (hC.mono hz1)
        have hz2 := hB2.size
        clear hC hB1 hz1
        go_wp2_with fail
        refine (rabs_at h2 HY).mono ?_
        rintro e' w' ⟨rfl, rfl⟩
        go_wp2_with fail
        refine (amount_nv y _ (by omega)).mono ?_
        rintro e' W3 ⟨A3, k3, c3, rfl, v2, hC⟩
        have hB3 := hB2.trans (hC.mono hz2)
        have hz3 := hB3.size
        have v1 := v1.below hC
        clear hC hB2 hz2
        go_wp2_with fail
        refine (times_nv v1 v2 (amt_big (by omega)) (amt_big (by omega)) HXX).mono ?_
        rintro e' W4 ⟨A4, k4, c4, rfl, v3, hC⟩
        have hB4 := hB3.trans (hC.mono hz3)
        have hz4 := hB4.size
        have v1 := v1.below hC
        have v2 := v2.below hC
        clear hC hB3 hz3
        go_wp2_with fail
        refine (rabs_at h3 HZ).mono ?_
        rintro e' w' ⟨rfl, rfl⟩
        go_wp2_with fail
        refine (amount_nv z _ (by omega)).mono ?_
        rintro e' W5 ⟨A5, k5, c5, rfl, v4, hC⟩
        have hB5 := hB4.trans (hC.mono hz4)
        have hz5 := hB5.size
        have v1 := v1.below hC
        have v2 := v2.below hC
        have v3 := v3.below hC
        clear hC hB4 hz4
        go_wp2_with fail
        refine (twice_nv (k := 149) v4 (amt_big (by omega)) (by omega) HZZ).mono ?_
        rintro e' W6 ⟨A6, k6, c6, rfl, v5, hC⟩
        have hB6 := hB5.trans (hC.mono hz5)
        have hz6 := hB6.size
        have v1 := v1.below hC
        have v2 := v2.below hC
        have v3 := v3.below hC
        have v4 := v4.below hC
        clear hC hB5 hz5
        go_wp2_with fail
        refine (of_nv 1 _ (Lib.hid (by decide))).mono ?_
        rintro e' W7 ⟨A7, k7, c7, rfl, v6, hC⟩
        have hB7 := hB6.trans (hC.mono hz6)
        have hz7 := hB7.size
        have v1 := v1.below hC
        have v2 := v2.below hC
        have v3 := v3.below hC
        have v4 := v4.below hC
        have v5 := v5.below hC
        clear hC hB6 hz6
        go_wp2_with fail
        refine (twice_nv (k := 149) v6 (ten_thirty big_1) (by omega) (Lib.hid (Nat.mul_one (two 149)))).mono ?_
        rintro e' W8 ⟨A8, k8, c8, rfl, v7, hC⟩
        have hB8 := hB7.trans (hC.mono hz7)
        have hz8 := hB8.size
        have v1 := v1.below hC
        have v2 := v2.below hC
        have v3 := v3.below hC
        have v4 := v4.below hC
        have v5 := v5.below hC
        have v6 := v6.below hC
        clear hC hB7 hz7
        go_wp2_with fail
        refine (rbelow_at SC).mono ?_
        rintro e' w' ⟨rfl, rfl⟩
        have l1 := nil_len v3 X0.out
        have l2 := some_len v5 Z0.out
        go_wp2_with fail
        refine (plus_nv v3 v5 (ten_thirty HXB.out) (ten_thirty HZB.out) (Lib.hid rfl)).mono ?_
        rintro e' W9 ⟨A9, k9, c9, rfl, v8, hC⟩
        have hB9 := hB8.trans (hC.mono hz8)
        have hz9 := hB9.size
        have v1 := v1.below hC
        have v2 := v2.below hC
        have v3 := v3.below hC
        have v4 := v4.below hC
        have v5 := v5.below hC
        have v6 := v6.below hC
        have v7 := v7.below hC
        clear hC hB8 hz8
        go_wp2_with fail
        refine (rounded_any v8 v7 HSB (Lib.hid big149)).mono ?_
        rintro e' W10 ⟨rfl, hC⟩
        have hB10 := hB9.trans (hC.mono hz9)
        have hz10 := hB10.size
        clear hC hB9 hz9
        go_wp2
        go_ret
        exact ⟨by rw [HE.out]; try rfl, hB10⟩
    · have HE : Hid (fmaP way a b c = rnd way sn (X + Z) (two 149)) := Lib.hid (by rw [hl, if_neg (fun h => hx0 h.1)]; unfold sumW; rw [if_pos hss])
      have X0 := Lib.hid hx0
      clear hl hss hx0
      go_enter Try.func13, Try.ntmps13
      have hB0 := Below.refl w.heap.size w
      have hz0 := hB0.size
      go_wp2_with fail
      refine (rmul_at h1 h2 HM).mono ?_
      rintro e' W1 ⟨rfl, hC⟩
      have hB1 := hB0.trans (hC.mono hz0)
      have hz1 := hB1.size
      clear hC hB0 hz0
      go_wp2_with fail
      refine (rbelow_at SA).mono ?_
      rintro e' w' ⟨rfl, rfl⟩
      go_wp2_with fail
      refine (rbelow_at SB).mono ?_
      rintro e' w' ⟨rfl, rfl⟩
      go_wp2_with fail
      refine (rabs_at h1 HX).mono ?_
      rintro e' w' ⟨rfl, rfl⟩
      go_wp2_with fail
      refine (rabs_at h2 HY).mono ?_
      rintro e' w' ⟨rfl, rfl⟩
      go_wp2_with fail
      refine (rnone_at h1 NA).mono ?_
      rintro e' w' ⟨rfl, rfl⟩
      go_wp2_with fail
      refine (rnone_at h2 NB).mono ?_
      rintro e' w' ⟨rfl, rfl⟩
      go_wp2_with fail
      refine (rnone_at h3 NC).mono ?_
      rintro e' w' ⟨rfl, rfl⟩
      go_wp2_with fail
      refine (rnone_at HML NM).mono ?_
      rintro e' w' ⟨rfl, rfl⟩
      go_wp2_with fail
      refine (rabs_at h3 HZ).mono ?_
      rintro e' w' ⟨rfl, rfl⟩
      go_wp2_with fail
      refine (rabs_at h1 HX).mono ?_
      rintro e' w' ⟨rfl, rfl⟩
      go_wp2_with fail
      refine (amount_nv x _ (by omega)).mono ?_
      rintro e' W2 ⟨A2, k2, c2, rfl, v1, hC⟩
      have hB2 := hB1.trans (hC.mono hz1)
      have hz2 := hB2.size
      clear hC hB1 hz1
      go_wp2_with fail
      refine (rabs_at h2 HY).mono ?_
      rintro e' w' ⟨rfl, rfl⟩
      go_wp2_with fail
      refine (amount_nv y _ (by omega)).mono ?_
      rintro e' W3 ⟨A3, k3, c3, rfl, v2, hC⟩
      have hB3 := hB2.trans (hC.mono hz2)
      have hz3 := hB3.size
      have v1 := v1.below hC
      clear hC hB2 hz2
      go_wp2_with fail
      refine (times_nv v1 v2 (amt_big (by omega)) (amt_big (by omega)) HXX).mono ?_
      rintro e' W4 ⟨A4, k4, c4, rfl, v3, hC⟩
      have hB4 := hB3.trans (hC.mono hz3)
      have hz4 := hB4.size
      have v1 := v1.below hC
      have v2 := v2.below hC
      clear hC hB3 hz3
      go_wp2_with fail
      refine (rabs_at h3 HZ).mono ?_
      rintro e' w' ⟨rfl, rfl⟩
      go_wp2_with fail
      refine (amount_nv z _ (by omega)).mono ?_
      rintro e' W5 ⟨A5, k5, c5, rfl, v4, hC⟩
      have hB5 := hB4.trans (hC.mono hz4)
      have hz5 := hB5.size
      have v1 := v1.below hC
      have v2 := v2.below hC
      have v3 := v3.below hC
      clear hC hB4 hz4
      go_wp2_with fail
      refine (twice_nv (k := 149) v4 (amt_big (by omega)) (by omega) HZZ).mono ?_
      rintro e' W6 ⟨A6, k6, c6, rfl, v5, hC⟩
      have hB6 := hB5.trans (hC.mono hz5)
      have hz6 := hB6.size
      have v1 := v1.below hC
      have v2 := v2.below hC
      have v3 := v3.below hC
      have v4 := v4.below hC
      clear hC hB5 hz5
      go_wp2_with fail
      refine (of_nv 1 _ (Lib.hid (by decide))).mono ?_
      rintro e' W7 ⟨A7, k7, c7, rfl, v6, hC⟩
      have hB7 := hB6.trans (hC.mono hz6)
      have hz7 := hB7.size
      have v1 := v1.below hC
      have v2 := v2.below hC
      have v3 := v3.below hC
      have v4 := v4.below hC
      have v5 := v5.below hC
      clear hC hB6 hz6
      go_wp2_with fail
      refine (twice_nv (k := 149) v6 (ten_thirty big_1) (by omega) (Lib.hid (Nat.mul_one (two 149)))).mono ?_
      rintro e' W8 ⟨A8, k8, c8, rfl, v7, hC⟩
      have hB8 := hB7.trans (hC.mono hz7)
      have hz8 := hB8.size
      have v1 := v1.below hC
      have v2 := v2.below hC
      have v3 := v3.below hC
      have v4 := v4.below hC
      have v5 := v5.below hC
      have v6 := v6.below hC
      clear hC hB7 hz7
      go_wp2_with fail
      refine (rbelow_at SC).mono ?_
      rintro e' w' ⟨rfl, rfl⟩
      have l1 := some_len v3 X0.out
      go_wp2_with fail
      refine (plus_nv v3 v5 (ten_thirty HXB.out) (ten_thirty HZB.out) (Lib.hid rfl)).mono ?_
      rintro e' W9 ⟨A9, k9, c9, rfl, v8, hC⟩
      have hB9 := hB8.trans (hC.mono hz8)
      have hz9 := hB9.size
      have v1 := v1.below hC
      have v2 := v2.below hC
      have v3 := v3.below hC
      have v4 := v4.below hC
      have v5 := v5.below hC
      have v6 := v6.below hC
      have v7 := v7.below hC
      clear hC hB8 hz8
      go_wp2_with fail
      refine (rounded_any v8 v7 HSB (Lib.hid big149)).mono ?_
      rintro e' W10 ⟨rfl, hC⟩
      have hB10 := hB9.trans (hC.mono hz9)
      have hz10 := hB10.size
      clear hC hB9 hz9
      go_wp2
      go_ret
      exact ⟨by rw [HE.out]; try rfl, hB10⟩
  have bss : (sn == sc) = false := by rw [beq_eq_false_iff_ne]; exact hss
  have hnot : (!sn) = sc := by revert hss; cases sn <;> cases sc <;> simp
  have hl2 : fmaP way a b c = if X = Z then sgn (way == 2) else if Z < X then rnd way sn (X - Z) (two 149) else rnd way sc (Z - X) (two 149) := by
    rw [hl]
    by_cases hz : X = 0 ∧ Z = 0
    · rw [if_pos hz, if_neg (fun e => hss e.symm), hz.1, hz.2, if_pos rfl]
    · rw [if_neg hz]
      unfold sumW
      rw [if_neg hss]
  by_cases heq : X = Z
  case pos =>
    have HE : Hid (fmaP way a b c = sgn (way == 2)) := Lib.hid (by rw [hl2, if_pos heq])
    have HD : Hid (cmpV X Z = 0) := Lib.hid (cmpV_zero.2 heq)
    clear hl hl2 hss heq hnot
    by_cases hw2 : way = 2
    · subst hw2
      go_enter Try.func13, Try.ntmps13
      have hB0 := Below.refl w.heap.size w
      have hz0 := hB0.size
      go_wp2_with fail
      refine (rmul_at h1 h2 HM).mono ?_
      rintro e' W1 ⟨rfl, hC⟩
      have hB1 := hB0.trans (hC.mono hz0)
      have hz1 := hB1.size
      clear hC hB0 hz0
      go_wp2_with fail
      refine (rbelow_at SA).mono ?_
      rintro e' w' ⟨rfl, rfl⟩
      go_wp2_with fail
      refine (rbelow_at SB).mono ?_
      rintro e' w' ⟨rfl, rfl⟩
      go_wp2_with fail
      refine (rabs_at h1 HX).mono ?_
      rintro e' w' ⟨rfl, rfl⟩
      go_wp2_with fail
      refine (rabs_at h2 HY).mono ?_
      rintro e' w' ⟨rfl, rfl⟩
      go_wp2_with fail
      refine (rnone_at h1 NA).mono ?_
      rintro e' w' ⟨rfl, rfl⟩
      go_wp2_with fail
      refine (rnone_at h2 NB).mono ?_
      rintro e' w' ⟨rfl, rfl⟩
      go_wp2_with fail
      refine (rnone_at h3 NC).mono ?_
      rintro e' w' ⟨rfl, rfl⟩
      go_wp2_with fail
      refine (rnone_at HML NM).mono ?_
      rintro e' w' ⟨rfl, rfl⟩
      go_wp2_with fail
      refine (rabs_at h3 HZ).mono ?_
      rintro e' w' ⟨rfl, rfl⟩
      go_wp2_with fail
      refine (rabs_at h1 HX).mono ?_
      rintro e' w' ⟨rfl, rfl⟩
      go_wp2_with fail
      refine (amount_nv x _ (by omega)).mono ?_
      rintro e' W2 ⟨A2, k2, c2, rfl, v1, hC⟩
      have hB2 := hB1.trans (hC.mono hz1)
      have hz2 := hB2.size
      clear hC hB1 hz1
      go_wp2_with fail
      refine (rabs_at h2 HY).mono ?_
      rintro e' w' ⟨rfl, rfl⟩
      go_wp2_with fail
      refine (amount_nv y _ (by omega)).mono ?_
      rintro e' W3 ⟨A3, k3, c3, rfl, v2, hC⟩
      have hB3 := hB2.trans (hC.mono hz2)
      have hz3 := hB3.size
      have v1 := v1.below hC
      clear hC hB2 hz2
      go_wp2_with fail
      refine (times_nv v1 v2 (amt_big (by omega)) (amt_big (by omega)) HXX).mono ?_
      rintro e' W4 ⟨A4, k4, c4, rfl, v3, hC⟩
      have hB4 := hB3.trans (hC.mono hz3)
      have hz4 := hB4.size
      have v1 := v1.below hC
      have v2 := v2.below hC
      clear hC hB3 hz3
      go_wp2_with fail
      refine (rabs_at h3 HZ).mono ?_
      rintro e' w' ⟨rfl, rfl⟩
      go_wp2_with fail
      refine (amount_nv z _ (by omega)).mono ?_
      rintro e' W5 ⟨A5, k5, c5, rfl, v4, hC⟩
      have hB5 := hB4.trans (hC.mono hz4)
      have hz5 := hB5.size
      have v1 := v1.below hC
      have v2 := v2.below hC
      have v3 := v3.below hC
      clear hC hB4 hz4
      go_wp2_with fail
      refine (twice_nv (k := 149) v4 (amt_big (by omega)) (by omega) HZZ).mono ?_
      rintro e' W6 ⟨A6, k6, c6, rfl, v5, hC⟩
      have hB6 := hB5.trans (hC.mono hz5)
      have hz6 := hB6.size
      have v1 := v1.below hC
      have v2 := v2.below hC
      have v3 := v3.below hC
      have v4 := v4.below hC
      clear hC hB5 hz5
      go_wp2_with fail
      refine (of_nv 1 _ (Lib.hid (by decide))).mono ?_
      rintro e' W7 ⟨A7, k7, c7, rfl, v6, hC⟩
      have hB7 := hB6.trans (hC.mono hz6)
      have hz7 := hB7.size
      have v1 := v1.below hC
      have v2 := v2.below hC
      have v3 := v3.below hC
      have v4 := v4.below hC
      have v5 := v5.below hC
      clear hC hB6 hz6
      go_wp2_with fail
      refine (twice_nv (k := 149) v6 (ten_thirty big_1) (by omega) (Lib.hid (Nat.mul_one (two 149)))).mono ?_
      rintro e' W8 ⟨A8, k8, c8, rfl, v7, hC⟩
      have hB8 := hB7.trans (hC.mono hz7)
      have hz8 := hB8.size
      have v1 := v1.below hC
      have v2 := v2.below hC
      have v3 := v3.below hC
      have v4 := v4.below hC
      have v5 := v5.below hC
      have v6 := v6.below hC
      clear hC hB7 hz7
      go_wp2_with fail
      refine (rbelow_at SC).mono ?_
      rintro e' w' ⟨rfl, rfl⟩
      go_wp2_with fail
      refine (compare_nv v3 v5 (ten_thirty HXB.out) (ten_thirty HZB.out) HD).mono ?_
      rintro e' w' ⟨rfl, nd8, rfl⟩
      have hB9 := below_drewN hB8 nd8
      have hz9 := hB9.size
      have v1 := v1.below (below_drewN (Below.refl _ _) nd8)
      have v2 := v2.below (below_drewN (Below.refl _ _) nd8)
      have v3 := v3.below (below_drewN (Below.refl _ _) nd8)
      have v4 := v4.below (below_drewN (Below.refl _ _) nd8)
      have v5 := v5.below (below_drewN (Below.refl _ _) nd8)
      have v6 := v6.below (below_drewN (Below.refl _ _) nd8)
      have v7 := v7.below (below_drewN (Below.refl _ _) nd8)
      clear hB8 hz8
      go_wp2
      go_ret
      exact ⟨by rw [HE.out]; try rfl, hB9⟩
    · have bw : (way == 2) = false := by simpa using hw2
      rw [bw] at HE
      clear hw2
      go_enter Try.func13, Try.ntmps13
      have hB0 := Below.refl w.heap.size w
      have hz0 := hB0.size
      go_wp2_with fail
      refine (rmul_at h1 h2 HM).mono ?_
      rintro e' W1 ⟨rfl, hC⟩
      have hB1 := hB0.trans (hC.mono hz0)
      have hz1 := hB1.size
      clear hC hB0 hz0
      go_wp2_with fail
      refine (rbelow_at SA).mono ?_
      rintro e' w' ⟨rfl, rfl⟩
      go_wp2_with fail
      refine (rbelow_at SB).mono ?_
      rintro e' w' ⟨rfl, rfl⟩
      go_wp2_with fail
      refine (rabs_at h1 HX).mono ?_
      rintro e' w' ⟨rfl, rfl⟩
      go_wp2_with fail
      refine (rabs_at h2 HY).mono ?_
      rintro e' w' ⟨rfl, rfl⟩
      go_wp2_with fail
      refine (rnone_at h1 NA).mono ?_
      rintro e' w' ⟨rfl, rfl⟩
      go_wp2_with fail
      refine (rnone_at h2 NB).mono ?_
      rintro e' w' ⟨rfl, rfl⟩
      go_wp2_with fail
      refine (rnone_at h3 NC).mono ?_
      rintro e' w' ⟨rfl, rfl⟩
      go_wp2_with fail
      refine (rnone_at HML NM).mono ?_
      rintro e' w' ⟨rfl, rfl⟩
      go_wp2_with fail
      refine (rabs_at h3 HZ).mono ?_
      rintro e' w' ⟨rfl, rfl⟩
      go_wp2_with fail
      refine (rabs_at h1 HX).mono ?_
      rintro e' w' ⟨rfl, rfl⟩
      go_wp2_with fail
      refine (amount_nv x _ (by omega)).mono ?_
      rintro e' W2 ⟨A2, k2, c2, rfl, v1, hC⟩
      have hB2 := hB1.trans (hC.mono hz1)
      have hz2 := hB2.size
      clear hC hB1 hz1
      go_wp2_with fail
      refine (rabs_at h2 HY).mono ?_
      rintro e' w' ⟨rfl, rfl⟩
      go_wp2_with fail
      refine (amount_nv y _ (by omega)).mono ?_
      rintro e' W3 ⟨A3, k3, c3, rfl, v2, hC⟩
      have hB3 := hB2.trans (hC.mono hz2)
      have hz3 := hB3.size
      have v1 := v1.below hC
      clear hC hB2 hz2
      go_wp2_with fail
      refine (times_nv v1 v2 (amt_big (by omega)) (amt_big (by omega)) HXX).mono ?_
      rintro e' W4 ⟨A4, k4, c4, rfl, v3, hC⟩
      have hB4 := hB3.trans (hC.mono hz3)
      have hz4 := hB4.size
      have v1 := v1.below hC
      have v2 := v2.below hC
      clear hC hB3 hz3
      go_wp2_with fail
      refine (rabs_at h3 HZ).mono ?_
      rintro e' w' ⟨rfl, rfl⟩
      go_wp2_with fail
      refine (amount_nv z _ (by omega)).mono ?_
      rintro e' W5 ⟨A5, k5, c5, rfl, v4, hC⟩
      have hB5 := hB4.trans (hC.mono hz4)
      have hz5 := hB5.size
      have v1 := v1.below hC
      have v2 := v2.below hC
      have v3 := v3.below hC
      clear hC hB4 hz4
      go_wp2_with fail
      refine (twice_nv (k := 149) v4 (amt_big (by omega)) (by omega) HZZ).mono ?_
      rintro e' W6 ⟨A6, k6, c6, rfl, v5, hC⟩
      have hB6 := hB5.trans (hC.mono hz5)
      have hz6 := hB6.size
      have v1 := v1.below hC
      have v2 := v2.below hC
      have v3 := v3.below hC
      have v4 := v4.below hC
      clear hC hB5 hz5
      go_wp2_with fail
      refine (of_nv 1 _ (Lib.hid (by decide))).mono ?_
      rintro e' W7 ⟨A7, k7, c7, rfl, v6, hC⟩
      have hB7 := hB6.trans (hC.mono hz6)
      have hz7 := hB7.size
      have v1 := v1.below hC
      have v2 := v2.below hC
      have v3 := v3.below hC
      have v4 := v4.below hC
      have v5 := v5.below hC
      clear hC hB6 hz6
      go_wp2_with fail
      refine (twice_nv (k := 149) v6 (ten_thirty big_1) (by omega) (Lib.hid (Nat.mul_one (two 149)))).mono ?_
      rintro e' W8 ⟨A8, k8, c8, rfl, v7, hC⟩
      have hB8 := hB7.trans (hC.mono hz7)
      have hz8 := hB8.size
      have v1 := v1.below hC
      have v2 := v2.below hC
      have v3 := v3.below hC
      have v4 := v4.below hC
      have v5 := v5.below hC
      have v6 := v6.below hC
      clear hC hB7 hz7
      go_wp2_with fail
      refine (rbelow_at SC).mono ?_
      rintro e' w' ⟨rfl, rfl⟩
      go_wp2_with fail
      refine (compare_nv v3 v5 (ten_thirty HXB.out) (ten_thirty HZB.out) HD).mono ?_
      rintro e' w' ⟨rfl, nd8, rfl⟩
      have hB9 := below_drewN hB8 nd8
      have hz9 := hB9.size
      have v1 := v1.below (below_drewN (Below.refl _ _) nd8)
      have v2 := v2.below (below_drewN (Below.refl _ _) nd8)
      have v3 := v3.below (below_drewN (Below.refl _ _) nd8)
      have v4 := v4.below (below_drewN (Below.refl _ _) nd8)
      have v5 := v5.below (below_drewN (Below.refl _ _) nd8)
      have v6 := v6.below (below_drewN (Below.refl _ _) nd8)
      have v7 := v7.below (below_drewN (Below.refl _ _) nd8)
      clear hB8 hz8
      go_wp2
      go_ret
      exact ⟨by rw [HE.out]; try rfl, hB9⟩
  by_cases hlt : Z < X
  case pos =>
    have HE : Hid (fmaP way a b c = rnd way sn (X - Z) (two 149)) := Lib.hid (by rw [hl2, if_neg heq, if_pos hlt])
    have HD : Hid (cmpV X Z = 1) := Lib.hid (cmpV_gt hlt)
    have HLT := Lib.hid hlt
    clear hl hl2 hss heq hlt hnot
    go_enter Try.func13, Try.ntmps13
    have hB0 := Below.refl w.heap.size w
    have hz0 := hB0.size
    go_wp2_with fail
    refine (rmul_at h1 h2 HM).mono ?_
    rintro e' W1 ⟨rfl, hC⟩
    have hB1 := hB0.trans (hC.mono hz0)
    have hz1 := hB1.size
    clear hC hB0 hz0
    go_wp2_with fail
    refine (rbelow_at SA).mono ?_
    rintro e' w' ⟨rfl, rfl⟩
    go_wp2_with fail
    refine (rbelow_at SB).mono ?_
    rintro e' w' ⟨rfl, rfl⟩
    go_wp2_with fail
    refine (rabs_at h1 HX).mono ?_
    rintro e' w' ⟨rfl, rfl⟩
    go_wp2_with fail
    refine (rabs_at h2 HY).mono ?_
    rintro e' w' ⟨rfl, rfl⟩
    go_wp2_with fail
    refine (rnone_at h1 NA).mono ?_
    rintro e' w' ⟨rfl, rfl⟩
    go_wp2_with fail
    refine (rnone_at h2 NB).mono ?_
    rintro e' w' ⟨rfl, rfl⟩
    go_wp2_with fail
    refine (rnone_at h3 NC).mono ?_
    rintro e' w' ⟨rfl, rfl⟩
    go_wp2_with fail
    refine (rnone_at HML NM).mono ?_
    rintro e' w' ⟨rfl, rfl⟩
    go_wp2_with fail
    refine (rabs_at h3 HZ).mono ?_
    rintro e' w' ⟨rfl, rfl⟩
    go_wp2_with fail
    refine (rabs_at h1 HX).mono ?_
    rintro e' w' ⟨rfl, rfl⟩
    go_wp2_with fail
    refine (amount_nv x _ (by omega)).mono ?_
    rintro e' W2 ⟨A2, k2, c2, rfl, v1, hC⟩
    have hB2 := hB1.trans (hC.mono hz1)
    have hz2 := hB2.size
    clear hC hB1 hz1
    go_wp2_with fail
    refine (rabs_at h2 HY).mono ?_
    rintro e' w' ⟨rfl, rfl⟩
    go_wp2_with fail
    refine (amount_nv y _ (by omega)).mono ?_
    rintro e' W3 ⟨A3, k3, c3, rfl, v2, hC⟩
    have hB3 := hB2.trans (hC.mono hz2)
    have hz3 := hB3.size
    have v1 := v1.below hC
    clear hC hB2 hz2
    go_wp2_with fail
    refine (times_nv v1 v2 (amt_big (by omega)) (amt_big (by omega)) HXX).mono ?_
    rintro e' W4 ⟨A4, k4, c4, rfl, v3, hC⟩
    have hB4 := hB3.trans (hC.mono hz3)
    have hz4 := hB4.size
    have v1 := v1.below hC
    have v2 := v2.below hC
    clear hC hB3 hz3
    go_wp2_with fail
    refine (rabs_at h3 HZ).mono ?_
    rintro e' w' ⟨rfl, rfl⟩
    go_wp2_with fail
    refine (amount_nv z _ (by omega)).mono ?_
    rintro e' W5 ⟨A5, k5, c5, rfl, v4, hC⟩
    have hB5 := hB4.trans (hC.mono hz4)
    have hz5 := hB5.size
    have v1 := v1.below hC
    have v2 := v2.below hC
    have v3 := v3.below hC
    clear hC hB4 hz4
    go_wp2_with fail
    refine (twice_nv (k := 149) v4 (amt_big (by omega)) (by omega) HZZ).mono ?_
    rintro e' W6 ⟨A6, k6, c6, rfl, v5, hC⟩
    have hB6 := hB5.trans (hC.mono hz5)
    have hz6 := hB6.size
    have v1 := v1.below hC
    have v2 := v2.below hC
    have v3 := v3.below hC
    have v4 := v4.below hC
    clear hC hB5 hz5
    go_wp2_with fail
    refine (of_nv 1 _ (Lib.hid (by decide))).mono ?_
    rintro e' W7 ⟨A7, k7, c7, rfl, v6, hC⟩
    have hB7 := hB6.trans (hC.mono hz6)
    have hz7 := hB7.size
    have v1 := v1.below hC
    have v2 := v2.below hC
    have v3 := v3.below hC
    have v4 := v4.below hC
    have v5 := v5.below hC
    clear hC hB6 hz6
    go_wp2_with fail
    refine (twice_nv (k := 149) v6 (ten_thirty big_1) (by omega) (Lib.hid (Nat.mul_one (two 149)))).mono ?_
    rintro e' W8 ⟨A8, k8, c8, rfl, v7, hC⟩
    have hB8 := hB7.trans (hC.mono hz7)
    have hz8 := hB8.size
    have v1 := v1.below hC
    have v2 := v2.below hC
    have v3 := v3.below hC
    have v4 := v4.below hC
    have v5 := v5.below hC
    have v6 := v6.below hC
    clear hC hB7 hz7
    go_wp2_with fail
    refine (rbelow_at SC).mono ?_
    rintro e' w' ⟨rfl, rfl⟩
    go_wp2_with fail
    refine (compare_nv v3 v5 (ten_thirty HXB.out) (ten_thirty HZB.out) HD).mono ?_
    rintro e' w' ⟨rfl, nd8, rfl⟩
    have hB9 := below_drewN hB8 nd8
    have hz9 := hB9.size
    have v1 := v1.below (below_drewN (Below.refl _ _) nd8)
    have v2 := v2.below (below_drewN (Below.refl _ _) nd8)
    have v3 := v3.below (below_drewN (Below.refl _ _) nd8)
    have v4 := v4.below (below_drewN (Below.refl _ _) nd8)
    have v5 := v5.below (below_drewN (Below.refl _ _) nd8)
    have v6 := v6.below (below_drewN (Below.refl _ _) nd8)
    have v7 := v7.below (below_drewN (Below.refl _ _) nd8)
    clear hB8 hz8
    go_wp2_with fail
    refine (minus_nv v3 v5 (ten_thirty HXB.out) (Nat.le_of_lt HLT.out) (Lib.hid rfl)).mono ?_
    rintro e' W10 ⟨A10, k10, c10, rfl, v8, hC⟩
    have hB10 := hB9.trans (hC.mono hz9)
    have hz10 := hB10.size
    have v1 := v1.below hC
    have v2 := v2.below hC
    have v3 := v3.below hC
    have v4 := v4.below hC
    have v5 := v5.below hC
    have v6 := v6.below hC
    have v7 := v7.below hC
    clear hC hB9 hz9
    go_wp2_with fail
    refine (rounded_any v8 v7 (Lib.hid (Nat.lt_of_le_of_lt (Nat.sub_le _ _) HXB.out)) (Lib.hid big149)).mono ?_
    rintro e' W11 ⟨rfl, hC⟩
    have hB11 := hB10.trans (hC.mono hz10)
    have hz11 := hB11.size
    clear hC hB10 hz10
    go_wp2
    go_ret
    exact ⟨by rw [HE.out]; try rfl, hB11⟩
  have HE : Hid (fmaP way a b c = rnd way sc (Z - X) (two 149)) := Lib.hid (by rw [hl2, if_neg heq, if_neg hlt])
  have HD : Hid (cmpV X Z = -1) := Lib.hid (cmpV_lt (by omega))
  have HLT : Hid (X < Z) := Lib.hid (by omega)
  clear hl hl2 hss heq hlt
  go_enter Try.func13, Try.ntmps13
  have hB0 := Below.refl w.heap.size w
  have hz0 := hB0.size
  go_wp2_with fail
  refine (rmul_at h1 h2 HM).mono ?_
  rintro e' W1 ⟨rfl, hC⟩
  have hB1 := hB0.trans (hC.mono hz0)
  have hz1 := hB1.size
  clear hC hB0 hz0
  go_wp2_with fail
  refine (rbelow_at SA).mono ?_
  rintro e' w' ⟨rfl, rfl⟩
  go_wp2_with fail
  refine (rbelow_at SB).mono ?_
  rintro e' w' ⟨rfl, rfl⟩
  go_wp2_with fail
  refine (rabs_at h1 HX).mono ?_
  rintro e' w' ⟨rfl, rfl⟩
  go_wp2_with fail
  refine (rabs_at h2 HY).mono ?_
  rintro e' w' ⟨rfl, rfl⟩
  go_wp2_with fail
  refine (rnone_at h1 NA).mono ?_
  rintro e' w' ⟨rfl, rfl⟩
  go_wp2_with fail
  refine (rnone_at h2 NB).mono ?_
  rintro e' w' ⟨rfl, rfl⟩
  go_wp2_with fail
  refine (rnone_at h3 NC).mono ?_
  rintro e' w' ⟨rfl, rfl⟩
  go_wp2_with fail
  refine (rnone_at HML NM).mono ?_
  rintro e' w' ⟨rfl, rfl⟩
  go_wp2_with fail
  refine (rabs_at h3 HZ).mono ?_
  rintro e' w' ⟨rfl, rfl⟩
  go_wp2_with fail
  refine (rabs_at h1 HX).mono ?_
  rintro e' w' ⟨rfl, rfl⟩
  go_wp2_with fail
  refine (amount_nv x _ (by omega)).mono ?_
  rintro e' W2 ⟨A2, k2, c2, rfl, v1, hC⟩
  have hB2 := hB1.trans (hC.mono hz1)
  have hz2 := hB2.size
  clear hC hB1 hz1
  go_wp2_with fail
  refine (rabs_at h2 HY).mono ?_
  rintro e' w' ⟨rfl, rfl⟩
  go_wp2_with fail
  refine (amount_nv y _ (by omega)).mono ?_
  rintro e' W3 ⟨A3, k3, c3, rfl, v2, hC⟩
  have hB3 := hB2.trans (hC.mono hz2)
  have hz3 := hB3.size
  have v1 := v1.below hC
  clear hC hB2 hz2
  go_wp2_with fail
  refine (times_nv v1 v2 (amt_big (by omega)) (amt_big (by omega)) HXX).mono ?_
  rintro e' W4 ⟨A4, k4, c4, rfl, v3, hC⟩
  have hB4 := hB3.trans (hC.mono hz3)
  have hz4 := hB4.size
  have v1 := v1.below hC
  have v2 := v2.below hC
  clear hC hB3 hz3
  go_wp2_with fail
  refine (rabs_at h3 HZ).mono ?_
  rintro e' w' ⟨rfl, rfl⟩
  go_wp2_with fail
  refine (amount_nv z _ (by omega)).mono ?_
  rintro e' W5 ⟨A5, k5, c5, rfl, v4, hC⟩
  have hB5 := hB4.trans (hC.mono hz4)
  have hz5 := hB5.size
  have v1 := v1.below hC
  have v2 := v2.below hC
  have v3 := v3.below hC
  clear hC hB4 hz4
  go_wp2_with fail
  refine (twice_nv (k := 149) v4 (amt_big (by omega)) (by omega) HZZ).mono ?_
  rintro e' W6 ⟨A6, k6, c6, rfl, v5, hC⟩
  have hB6 := hB5.trans (hC.mono hz5)
  have hz6 := hB6.size
  have v1 := v1.below hC
  have v2 := v2.below hC
  have v3 := v3.below hC
  have v4 := v4.below hC
  clear hC hB5 hz5
  go_wp2_with fail
  refine (of_nv 1 _ (Lib.hid (by decide))).mono ?_
  rintro e' W7 ⟨A7, k7, c7, rfl, v6, hC⟩
  have hB7 := hB6.trans (hC.mono hz6)
  have hz7 := hB7.size
  have v1 := v1.below hC
  have v2 := v2.below hC
  have v3 := v3.below hC
  have v4 := v4.below hC
  have v5 := v5.below hC
  clear hC hB6 hz6
  go_wp2_with fail
  refine (twice_nv (k := 149) v6 (ten_thirty big_1) (by omega) (Lib.hid (Nat.mul_one (two 149)))).mono ?_
  rintro e' W8 ⟨A8, k8, c8, rfl, v7, hC⟩
  have hB8 := hB7.trans (hC.mono hz7)
  have hz8 := hB8.size
  have v1 := v1.below hC
  have v2 := v2.below hC
  have v3 := v3.below hC
  have v4 := v4.below hC
  have v5 := v5.below hC
  have v6 := v6.below hC
  clear hC hB7 hz7
  go_wp2_with fail
  refine (rbelow_at SC).mono ?_
  rintro e' w' ⟨rfl, rfl⟩
  go_wp2_with fail
  refine (compare_nv v3 v5 (ten_thirty HXB.out) (ten_thirty HZB.out) HD).mono ?_
  rintro e' w' ⟨rfl, nd8, rfl⟩
  have hB9 := below_drewN hB8 nd8
  have hz9 := hB9.size
  have v1 := v1.below (below_drewN (Below.refl _ _) nd8)
  have v2 := v2.below (below_drewN (Below.refl _ _) nd8)
  have v3 := v3.below (below_drewN (Below.refl _ _) nd8)
  have v4 := v4.below (below_drewN (Below.refl _ _) nd8)
  have v5 := v5.below (below_drewN (Below.refl _ _) nd8)
  have v6 := v6.below (below_drewN (Below.refl _ _) nd8)
  have v7 := v7.below (below_drewN (Below.refl _ _) nd8)
  clear hB8 hz8
  go_wp2_with fail
  refine (minus_nv v5 v3 (ten_thirty HZB.out) (Nat.le_of_lt HLT.out) (Lib.hid rfl)).mono ?_
  rintro e' W10 ⟨A10, k10, c10, rfl, v8, hC⟩
  have hB10 := hB9.trans (hC.mono hz9)
  have hz10 := hB10.size
  have v1 := v1.below hC
  have v2 := v2.below hC
  have v3 := v3.below hC
  have v4 := v4.below hC
  have v5 := v5.below hC
  have v6 := v6.below hC
  have v7 := v7.below hC
  clear hC hB9 hz9
  go_wp2_with fail
  refine (rounded_any v8 v7 (Lib.hid (Nat.lt_of_le_of_lt (Nat.sub_le _ _) HZB.out)) (Lib.hid big149)).mono ?_
  rintro e' W11 ⟨rfl, hC⟩
  have hB11 := hB10.trans (hC.mono hz10)
  have hz11 := hB11.size
  clear hC hB10 hz10
  go_wp2
  go_ret
  exact ⟨by rw [HE.out]; try rfl, hB11⟩
theorem rfma0_any (a b c : Nat) (w : World) (h1 : Hid (a < 4294967296)) (h2 : Hid (b < 4294967296)) (h3 : Hid (c < 4294967296)) :
    Calls Try.prog 15 #[.int .u32 (a : Int), .int .u32 (b : Int), .int .u32 (c : Int)] w (BR w (fmaP 0 a b c)) := by
  go_enter Try.func15, Try.ntmps15
  go_wp2_with fail
  refine (rfma_any 0 a b c _ h1 h2 h3).mono ?_
  rintro e w' ⟨rfl, hb⟩
  go_wp2
  go_ret
  exact ⟨rfl, hb⟩
end Go.Proofs.Ytanccobllehnaaa
