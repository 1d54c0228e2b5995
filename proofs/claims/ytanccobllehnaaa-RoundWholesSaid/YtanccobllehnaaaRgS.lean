/- The document's Scale: plain law and contract. -/
import Derived.Test.YtanccobllehnaaaRdI
import Derived.Test.YtanccobllehnaaaRefH
import Derived.Test.YtanccobllehnaaaNatQ
namespace Go.Proofs.Ytanccobllehnaaa
open Go.RowKit

def clipK (k : Int) : Int := min (max k (-700)) 700
theorem sig_clip {nb : Bool} {e k : Int} {s : Nat} (hs : 0 < s) (he : -149 ≤ e ∧ e ≤ 104) : roundP 0 nb (e + max (-1000) (min k 1000)) s false = roundP 0 nb (e + clipK k) s false := by
  unfold clipK
  by_cases h1 : k < -700
  · unfold roundP
    rw [if_neg (by omega), if_pos (.inr (by omega)), if_neg (by omega), if_pos (.inr (by omega))]
  · by_cases h2 : 700 < k
    · unfold roundP
      rw [if_neg (by omega), if_neg (by omega), if_pos (by omega), if_neg (by omega), if_neg (by omega), if_pos (by omega)]
    · rw [show max (-1000) (min k 1000) = min (max k (-700)) 700 from by omega]
theorem scale_up {nb : Bool} {e : Int} {s i K : Nat} (hs : 0 < s) (hs24 : s < 16777216) (hi : e + 149 = (i : Int)) : roundP 0 nb (e + (K : Int)) s false = rnd 0 nb (two K * (s * two i)) 1 := by
  refine round_rnd hs (by omega) (by decide) ?_
  unfold RV
  rw [show (-(e + (K : Int) + 149)).toNat = 0 from by omega, show (e + (K : Int) + 149).toNat = i + K from by omega]
  simp only [Nat.mul_one, Bool.false_eq_true, if_false, show two 0 = 1 from rfl]
  rw [two_add, Nat.mul_comm (two K), Nat.mul_assoc]
theorem scale_down {nb : Bool} {e : Int} {s i K : Nat} (hs : 0 < s) (hs24 : s < 16777216) (hi : e + 149 = (i : Int)) : roundP 0 nb (e + -(K : Int)) s false = rnd 0 nb (s * two i) (two K) := by
  refine round_rnd hs (by omega) (two_pos _) ?_
  unfold RV
  simp only [Bool.false_eq_true, if_false]
  rw [Nat.mul_assoc, ← two_add, ← two_add]
  congr 2
  omega
theorem big_amt {K x : Nat} (hK : K ≤ 700) (hx : x ≤ 2139095040) : two K * amt x < two 10000 := by
  have h1 : two K * amt x ≤ two K * two 277 := Nat.mul_le_mul_left _ (amt_le hx)
  rw [← two_add] at h1
  have h2 := two_le (show K + 277 + 1 ≤ 10000 by omega)
  have h3 := two_pos (K + 277)
  rw [two_succ] at h2
  omega
theorem big_two {K : Nat} (hK : K ≤ 9000) : two K < two 10000 := by
  have h2 := two_le (show K + 1 ≤ 10000 by omega)
  have h3 := two_pos K
  rw [two_succ] at h2
  omega
set_option maxRecDepth 100000 in
set_option maxHeartbeats 1600000 in
theorem rscale_any (a : Nat) (k : Int) (w : World) (h : Hid (a < 4294967296)) :
    Calls Try.prog 27 #[.int .u32 (a : Int), .int .i64 k] w (BR w (scaleP a k)) := by
  obtain ⟨x, hx⟩ : ∃ x, absP a = x := ⟨_, rfl⟩
  obtain ⟨sa, hsa⟩ : ∃ s, decide (2147483648 ≤ a) = s := ⟨_, rfl⟩
  have HX := Lib.hid hx
  have SA := Lib.hid hsa
  cases hna : nanP a
  case true =>
    have NA := Lib.hid hna
    have HE : Hid (scaleP a k = 2143289344) := Lib.hid (by unfold scaleP; rw [if_pos hna])
    clear hna hx hsa
    go_enter Try.func27, Try.ntmps27
    have hB0 := Below.refl w.heap.size w
    have hz0 := hB0.size
    go_wp2_with fail
    refine (rnone_at h NA).mono ?_
    rintro e' w' ⟨rfl, rfl⟩
    go_wp2
    go_ret
    exact ⟨by rw [HE.out]; try rfl, hB0⟩
  have NA := Lib.hid hna
  have hno : ¬ nanP a = true := by rw [hna]; decide
  by_cases hxi : x = 2139095040
  case pos =>
    have HE : Hid (scaleP a k = a) := Lib.hid (by unfold scaleP; rw [if_neg hno, if_pos (.inl (inf_abs.2 (hx.trans hxi)))])
    have bx : ((x : Int) == 2139095040) = true := int_eq hxi
    clear hna hno hx hsa hxi
    go_enter Try.func27, Try.ntmps27
    have hB0 := Below.refl w.heap.size w
    have hz0 := hB0.size
    go_wp2_with fail
    refine (rnone_at h NA).mono ?_
    rintro e' w' ⟨rfl, rfl⟩
    go_wp2_with fail
    refine (rabs_at h HX).mono ?_
    rintro e' w' ⟨rfl, rfl⟩
    go_wp2
    go_ret
    exact ⟨by rw [HE.out]; try rfl, hB0⟩
  have IA : infP a = false := by
    cases h : infP a
    · rfl
    · exact absurd (hx.symm.trans (inf_abs.1 h)) hxi
  have bx : ((x : Int) == 2139095040) = false := int_ne hxi
  by_cases hx0 : x = 0
  case pos =>
    have HE : Hid (scaleP a k = a) := Lib.hid (by unfold scaleP; rw [if_neg hno, if_pos (.inr (o_nil.2 (hx.trans hx0)))])
    have b0 : ((x : Int) == 0) = true := int_eq (y := 0) hx0
    clear hna hno hx hsa hxi hx0 IA
    go_enter Try.func27, Try.ntmps27
    have hB0 := Below.refl w.heap.size w
    have hz0 := hB0.size
    go_wp2_with fail
    refine (rnone_at h NA).mono ?_
    rintro e' w' ⟨rfl, rfl⟩
    go_wp2_with fail
    refine (rabs_at h HX).mono ?_
    rintro e' w' ⟨rfl, rfl⟩
    go_wp2
    go_ret
    exact ⟨by rw [HE.out]; try rfl, hB0⟩
  have b0 : ((x : Int) == 0) = false := int_ne (y := 0) hx0
  have lx := fin_abs hna IA
  have hs0 : 0 < oS a := by
    rcases Nat.eq_zero_or_pos (oS a) with h0 | h0
    · exact absurd (hx.symm.trans (o_nil.1 h0)) hx0
    · exact h0
  obtain ⟨ob1, ob2, ob3⟩ := o_bounds a
  have ob4 := o_fin lx
  obtain ⟨i, hi⟩ : ∃ i : Nat, oE a + 149 = (i : Int) := ⟨(oE a + 149).toNat, by omega⟩
  have hamt : oS a * two i = amt x := by rw [← hx, ← ofin_amt, show (oE a + 149).toNat = i from by omega]
  have hE0 : scaleP a k = roundP 0 sa (oE a + clipK k) (oS a) false := by
    unfold scaleP
    rw [if_neg hno, if_neg (by rw [IA]; simp; omega), sig_clip hs0 ⟨ob2, ob4⟩]
    rw [← hsa]; rfl
  obtain ⟨K, hK⟩ : ∃ K, clipK k = K := ⟨_, rfl⟩
  rw [hK] at hE0
  unfold clipK at hK
  have hK1 : -700 ≤ K := by omega
  have hK2 : K ≤ 700 := by omega
  rw [hx] at lx
  by_cases hp : 0 ≤ K
  · obtain ⟨n, hn⟩ : ∃ n : Nat, K = (n : Int) := ⟨K.toNat, by omega⟩
    have HE : Hid (scaleP a k = rnd 0 sa (two n * amt x) 1) := Lib.hid (by rw [hE0, hn, scale_up hs0 ob1 hi, hamt])
    have hn7 : n ≤ 700 := by omega
    have hn0 : (0 : Int) ≤ (n : Int) := by omega
    subst hn
    clear hna hno hx hsa hxi hx0 IA hs0 ob1 ob2 ob3 ob4 hi hamt hE0 hK1 hK2 hp
    go_enter Try.func27, Try.ntmps27
    have hB0 := Below.refl w.heap.size w
    have hz0 := hB0.size
    go_wp2_with fail
    refine (rnone_at h NA).mono ?_
    rintro e' w' ⟨rfl, rfl⟩
    go_wp2_with fail
    refine (rabs_at h HX).mono ?_
    rintro e' w' ⟨rfl, rfl⟩
    go_wp2_with fail
    refine (amount_nv x _ (by omega)).mono ?_
    rintro e' W1 ⟨A1, k1, c1, rfl, v1, hC⟩
    have hB1 := hB0.trans (hC.mono hz0)
    have hz1 := hB1.size
    clear hC hB0 hz0
    go_wp2_with fail
    refine (of_nv 1 _ (Lib.hid (by decide))).mono ?_
    rintro e' W2 ⟨A2, k2, c2, rfl, v2, hC⟩
    have hB2 := hB1.trans (hC.mono hz1)
    have hz2 := hB2.size
    have v1 := v1.below hC
    clear hC hB1 hz1
    go_wp2_with fail
    refine (twice_nv (k := n) v1 (amt_big (by omega)) (by omega) (Lib.hid rfl)).mono ?_
    rintro e' W3 ⟨A3, k3, c3, rfl, v3, hC⟩
    have hB3 := hB2.trans (hC.mono hz2)
    have hz3 := hB3.size
    have v1 := v1.below hC
    have v2 := v2.below hC
    clear hC hB2 hz2
    go_wp2_with fail
    refine (rbelow_at SA).mono ?_
    rintro e' w' ⟨rfl, rfl⟩
    go_wp2_with fail
    refine (rounded_any v3 v2 (Lib.hid (big_amt hn7 (by omega))) (Lib.hid big_1)).mono ?_
    rintro e' W4 ⟨rfl, hC⟩
    have hB4 := hB3.trans (hC.mono hz3)
    have hz4 := hB4.size
    clear hC hB3 hz3
    go_wp2
    go_ret
    exact ⟨by rw [HE.out]; try rfl, hB4⟩
  · obtain ⟨n, hn⟩ : ∃ n : Nat, K = -(n : Int) := ⟨(-K).toNat, by omega⟩
    have HE : Hid (scaleP a k = rnd 0 sa (amt x) (two n)) := Lib.hid (by rw [hE0, hn, scale_down hs0 ob1 hi, hamt])
    have hn7 : n ≤ 700 := by omega
    have hn0 : ¬ (0 : Int) ≤ -(n : Int) := by omega
    subst hn
    clear hna hno hx hsa hxi hx0 IA hs0 ob1 ob2 ob3 ob4 hi hamt hE0 hK1 hK2 hp
    go_enter Try.func27, Try.ntmps27
    have hB0 := Below.refl w.heap.size w
    have hz0 := hB0.size
    go_wp2_with fail
    refine (rnone_at h NA).mono ?_
    rintro e' w' ⟨rfl, rfl⟩
    go_wp2_with fail
    refine (rabs_at h HX).mono ?_
    rintro e' w' ⟨rfl, rfl⟩
    go_wp2_with fail
    refine (amount_nv x _ (by omega)).mono ?_
    rintro e' W1 ⟨A1, k1, c1, rfl, v1, hC⟩
    have hB1 := hB0.trans (hC.mono hz0)
    have hz1 := hB1.size
    clear hC hB0 hz0
    go_wp2_with fail
    refine (of_nv 1 _ (Lib.hid (by decide))).mono ?_
    rintro e' W2 ⟨A2, k2, c2, rfl, v2, hC⟩
    have hB2 := hB1.trans (hC.mono hz1)
    have hz2 := hB2.size
    have v1 := v1.below hC
    clear hC hB1 hz1
    go_wp2_with fail
    refine (twice_nv (k := n) v2 (ten_thirty big_1) (by omega) (Lib.hid (Nat.mul_one (two n)))).mono ?_
    rintro e' W3 ⟨A3, k3, c3, rfl, v3, hC⟩
    have hB3 := hB2.trans (hC.mono hz2)
    have hz3 := hB3.size
    have v1 := v1.below hC
    have v2 := v2.below hC
    clear hC hB2 hz2
    go_wp2_with fail
    refine (rbelow_at SA).mono ?_
    rintro e' w' ⟨rfl, rfl⟩
    go_wp2_with fail
    refine (rounded_any v1 v3 (Lib.hid (amt_ten (by omega))) (Lib.hid (big_two (by omega)))).mono ?_
    rintro e' W4 ⟨rfl, hC⟩
    have hB4 := hB3.trans (hC.mono hz3)
    have hz4 := hB4.size
    clear hC hB3 hz3
    go_wp2
    go_ret
    exact ⟨by rw [HE.out]; try rfl, hB4⟩
end Go.Proofs.Ytanccobllehnaaa
