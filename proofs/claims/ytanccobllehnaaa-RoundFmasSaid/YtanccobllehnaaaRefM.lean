/- The contract of the document's MulBy. -/
import Derived.Test.YtanccobllehnaaaRefH
namespace Go.Proofs.Ytanccobllehnaaa
open Go.RowKit

set_option maxRecDepth 100000 in
set_option maxHeartbeats 1600000 in
theorem rmul_any (way : Int) (a b : Nat) (w : World) (h : Hid (a < 4294967296)) (h' : Hid (b < 4294967296)) :
    Calls Try.prog 45 #[.int .i64 way, .int .u32 (a : Int), .int .u32 (b : Int)] w (BR w (mulP way a b)) := by
  obtain ⟨x, hx⟩ : ∃ x, absP a = x := ⟨_, rfl⟩
  obtain ⟨y, hy⟩ : ∃ y, absP b = y := ⟨_, rfl⟩
  obtain ⟨sa, hsa⟩ : ∃ s, decide (2147483648 ≤ a) = s := ⟨_, rfl⟩
  obtain ⟨sb, hsb⟩ : ∃ s, decide (2147483648 ≤ b) = s := ⟨_, rfl⟩
  have HX := Lib.hid hx
  have HY := Lib.hid hy
  have SA := Lib.hid hsa
  have SB := Lib.hid hsb
  obtain ⟨sn, hsn⟩ : ∃ s, (sa != sb) = s := ⟨_, rfl⟩
  have hsn2 : (!(sa == sb)) = sn := hsn
  have SN : Hid (sgnX a b = sn) := Lib.hid (by unfold sgnX; rw [hsa, hsb, hsn])
  cases hna : nanP a
  case true =>
    have NA := Lib.hid hna
    have HE : Hid (mulP way a b = 2143289344) := Lib.hid (mul_nan way (.inl hna))
    clear hna hx hy hsa hsb
    go_enter Try.func45, Try.ntmps45
    have hB0 := Below.refl w.heap.size w
    have hz0 := hB0.size
    go_wp2_with fail
    refine (rbelow_at SA).mono ?_
    rintro e w' ⟨rfl, rfl⟩
    go_wp2_with fail
    refine (rbelow_at SB).mono ?_
    rintro e w' ⟨rfl, rfl⟩
    go_wp2_with fail
    refine (rnone_at h NA).mono ?_
    rintro e w' ⟨rfl, rfl⟩
    go_wp2
    go_ret
    exact ⟨by rw [HE.out]; try rfl, hB0⟩
  have NA := Lib.hid hna
  cases hnb : nanP b
  case true =>
    have NB := Lib.hid hnb
    have HE : Hid (mulP way a b = 2143289344) := Lib.hid (mul_nan way (.inr hnb))
    clear hna hnb hx hy hsa hsb
    go_enter Try.func45, Try.ntmps45
    have hB0 := Below.refl w.heap.size w
    have hz0 := hB0.size
    go_wp2_with fail
    refine (rbelow_at SA).mono ?_
    rintro e w' ⟨rfl, rfl⟩
    go_wp2_with fail
    refine (rbelow_at SB).mono ?_
    rintro e w' ⟨rfl, rfl⟩
    go_wp2_with fail
    refine (rnone_at h NA).mono ?_
    rintro e w' ⟨rfl, rfl⟩
    go_wp2_with fail
    refine (rnone_at h' NB).mono ?_
    rintro e w' ⟨rfl, rfl⟩
    go_wp2
    go_ret
    exact ⟨by rw [HE.out]; try rfl, hB0⟩
  have NB := Lib.hid hnb
  by_cases hxi : x = 2139095040
  case pos =>
    have IA : infP a = true := inf_abs.2 (hx.trans hxi)
    have bx : ((x : Int) == 2139095040) = true := int_eq hxi
    have bx0 : ((x : Int) == 0) = false := int_ne (y := 0) (by omega)
    by_cases hy0 : y = 0
    · have HE : Hid (mulP way a b = 2143289344) := Lib.hid (mul_none way (.inl ⟨IA, hnb, hy.trans hy0⟩))
      have by0 : ((y : Int) == 0) = true := int_eq (y := 0) hy0
      clear hna hnb hx hy hsa hsb IA hxi hy0
      go_enter Try.func45, Try.ntmps45
      have hB0 := Below.refl w.heap.size w
      have hz0 := hB0.size
      go_wp2_with fail
      refine (rbelow_at SA).mono ?_
      rintro e w' ⟨rfl, rfl⟩
      go_wp2_with fail
      refine (rbelow_at SB).mono ?_
      rintro e w' ⟨rfl, rfl⟩
      go_wp2_with fail
      refine (rnone_at h NA).mono ?_
      rintro e w' ⟨rfl, rfl⟩
      go_wp2_with fail
      refine (rnone_at h' NB).mono ?_
      rintro e w' ⟨rfl, rfl⟩
      go_wp2_with fail
      refine (rabs_at h HX).mono ?_
      rintro e w' ⟨rfl, rfl⟩
      go_wp2_with fail
      refine (rabs_at h HX).mono ?_
      rintro e w' ⟨rfl, rfl⟩
      go_wp2_with fail
      refine (rabs_at h' HY).mono ?_
      rintro e w' ⟨rfl, rfl⟩
      go_wp2
      go_ret
      exact ⟨by rw [HE.out]; try rfl, hB0⟩
    · have HE : Hid (mulP way a b = sgn sn + 2139095040) := Lib.hid (by rw [mul_inf way hna hnb (.inl ⟨IA, by rw [hy]; exact hy0⟩), SN.out])
      have by0 : ((y : Int) == 0) = false := int_ne (y := 0) hy0
      clear hna hnb hx hy hsa hsb IA hxi hy0
      go_enter Try.func45, Try.ntmps45
      have hB0 := Below.refl w.heap.size w
      have hz0 := hB0.size
      go_wp2_with fail
      refine (rbelow_at SA).mono ?_
      rintro e w' ⟨rfl, rfl⟩
      go_wp2_with fail
      refine (rbelow_at SB).mono ?_
      rintro e w' ⟨rfl, rfl⟩
      go_wp2_with fail
      refine (rnone_at h NA).mono ?_
      rintro e w' ⟨rfl, rfl⟩
      go_wp2_with fail
      refine (rnone_at h' NB).mono ?_
      rintro e w' ⟨rfl, rfl⟩
      go_wp2_with fail
      refine (rabs_at h HX).mono ?_
      rintro e w' ⟨rfl, rfl⟩
      go_wp2_with fail
      refine (rabs_at h HX).mono ?_
      rintro e w' ⟨rfl, rfl⟩
      go_wp2_with fail
      refine (rabs_at h' HY).mono ?_
      rintro e w' ⟨rfl, rfl⟩
      go_wp2_with fail
      refine (signed_any sn 2139095040 _ (by decide)).mono ?_
      rintro e w' ⟨rfl, rfl⟩
      go_wp2
      go_ret
      exact ⟨by rw [HE.out]; try rfl, hB0⟩
  have IA : infP a = false := by cases h : infP a; · rfl
                                 · exact absurd (hx.symm.trans (inf_abs.1 h)) hxi
  have bx : ((x : Int) == 2139095040) = false := int_ne hxi
  by_cases hyi : y = 2139095040
  case pos =>
    have IB : infP b = true := inf_abs.2 (hy.trans hyi)
    have by' : ((y : Int) == 2139095040) = true := int_eq hyi
    have by0 : ((y : Int) == 0) = false := int_ne (y := 0) (by omega)
    by_cases hx0 : x = 0
    · have HE : Hid (mulP way a b = 2143289344) := Lib.hid (mul_none way (.inr ⟨IB, hna, hx.trans hx0⟩))
      have bx0 : ((x : Int) == 0) = true := int_eq (y := 0) hx0
      clear hna hnb hx hy hsa hsb IA IB hxi hyi hx0
      go_enter Try.func45, Try.ntmps45
      have hB0 := Below.refl w.heap.size w
      have hz0 := hB0.size
      go_wp2_with fail
      refine (rbelow_at SA).mono ?_
      rintro e w' ⟨rfl, rfl⟩
      go_wp2_with fail
      refine (rbelow_at SB).mono ?_
      rintro e w' ⟨rfl, rfl⟩
      go_wp2_with fail
      refine (rnone_at h NA).mono ?_
      rintro e w' ⟨rfl, rfl⟩
      go_wp2_with fail
      refine (rnone_at h' NB).mono ?_
      rintro e w' ⟨rfl, rfl⟩
      go_wp2_with fail
      refine (rabs_at h HX).mono ?_
      rintro e w' ⟨rfl, rfl⟩
      go_wp2_with fail
      refine (rabs_at h' HY).mono ?_
      rintro e w' ⟨rfl, rfl⟩
      go_wp2_with fail
      refine (rabs_at h HX).mono ?_
      rintro e w' ⟨rfl, rfl⟩
      go_wp2
      go_ret
      exact ⟨by rw [HE.out]; try rfl, hB0⟩
    · have HE : Hid (mulP way a b = sgn sn + 2139095040) := Lib.hid (by rw [mul_inf way hna hnb (.inr ⟨IB, by rw [hx]; exact hx0⟩), SN.out])
      have bx0 : ((x : Int) == 0) = false := int_ne (y := 0) hx0
      clear hna hnb hx hy hsa hsb IA IB hxi hyi hx0
      go_enter Try.func45, Try.ntmps45
      have hB0 := Below.refl w.heap.size w
      have hz0 := hB0.size
      go_wp2_with fail
      refine (rbelow_at SA).mono ?_
      rintro e w' ⟨rfl, rfl⟩
      go_wp2_with fail
      refine (rbelow_at SB).mono ?_
      rintro e w' ⟨rfl, rfl⟩
      go_wp2_with fail
      refine (rnone_at h NA).mono ?_
      rintro e w' ⟨rfl, rfl⟩
      go_wp2_with fail
      refine (rnone_at h' NB).mono ?_
      rintro e w' ⟨rfl, rfl⟩
      go_wp2_with fail
      refine (rabs_at h HX).mono ?_
      rintro e w' ⟨rfl, rfl⟩
      go_wp2_with fail
      refine (rabs_at h' HY).mono ?_
      rintro e w' ⟨rfl, rfl⟩
      go_wp2_with fail
      refine (rabs_at h HX).mono ?_
      rintro e w' ⟨rfl, rfl⟩
      go_wp2_with fail
      refine (rabs_at h' HY).mono ?_
      rintro e w' ⟨rfl, rfl⟩
      go_wp2_with fail
      refine (signed_any sn 2139095040 _ (by decide)).mono ?_
      rintro e w' ⟨rfl, rfl⟩
      go_wp2
      go_ret
      exact ⟨by rw [HE.out]; try rfl, hB0⟩
  have IB : infP b = false := by cases h : infP b; · rfl
                                 · exact absurd (hy.symm.trans (inf_abs.1 h)) hyi
  have by' : ((y : Int) == 2139095040) = false := int_ne hyi
  have lx := fin_abs hna IA
  have ly := fin_abs hnb IB
  rw [hx] at lx
  rw [hy] at ly
  have HE : Hid (mulP way a b = rnd way sn (amt x * amt y) (two 149)) := Lib.hid (by rw [mul_fin way hna hnb IA IB, SN.out, hx, hy])
  clear hna hnb hx hy hsa hsb IA IB hxi hyi
  go_enter Try.func45, Try.ntmps45
  have hB0 := Below.refl w.heap.size w
  have hz0 := hB0.size
  go_wp2_with fail
  refine (rbelow_at SA).mono ?_
  rintro e w' ⟨rfl, rfl⟩
  go_wp2_with fail
  refine (rbelow_at SB).mono ?_
  rintro e w' ⟨rfl, rfl⟩
  go_wp2_with fail
  refine (rnone_at h NA).mono ?_
  rintro e w' ⟨rfl, rfl⟩
  go_wp2_with fail
  refine (rnone_at h' NB).mono ?_
  rintro e w' ⟨rfl, rfl⟩
  go_wp2_with fail
  refine (rabs_at h HX).mono ?_
  rintro e w' ⟨rfl, rfl⟩
  go_wp2_with fail
  refine (rabs_at h' HY).mono ?_
  rintro e w' ⟨rfl, rfl⟩
  go_wp2_with fail
  refine (rabs_at h HX).mono ?_
  rintro e w' ⟨rfl, rfl⟩
  go_wp2_with fail
  refine (amount_nv x _ (by omega)).mono ?_
  rintro e W1 ⟨A1, k1, c1, rfl, v1, hC⟩
  have hB1 := hB0.trans (hC.mono hz0)
  have hz1 := hB1.size
  clear hC hB0 hz0
  go_wp2_with fail
  refine (rabs_at h' HY).mono ?_
  rintro e w' ⟨rfl, rfl⟩
  go_wp2_with fail
  refine (amount_nv y _ (by omega)).mono ?_
  rintro e W2 ⟨A2, k2, c2, rfl, v2, hC⟩
  have hB2 := hB1.trans (hC.mono hz1)
  have hz2 := hB2.size
  have v1 := v1.below hC
  clear hC hB1 hz1
  go_wp2_with fail
  refine (times_nv v1 v2 (amt_big (by omega)) (amt_big (by omega)) (Lib.hid rfl)).mono ?_
  rintro e W3 ⟨A3, k3, c3, rfl, v3, hC⟩
  have hB3 := hB2.trans (hC.mono hz2)
  have hz3 := hB3.size
  have v1 := v1.below hC
  have v2 := v2.below hC
  clear hC hB2 hz2
  go_wp2_with fail
  refine (of_nv 1 _ (Lib.hid (by decide))).mono ?_
  rintro e W4 ⟨A4, k4, c4, rfl, v4, hC⟩
  have hB4 := hB3.trans (hC.mono hz3)
  have hz4 := hB4.size
  have v1 := v1.below hC
  have v2 := v2.below hC
  have v3 := v3.below hC
  clear hC hB3 hz3
  go_wp2_with fail
  refine (twice_nv (k := 149) v4 (ten_thirty big_1) (by omega) (Lib.hid (Nat.mul_one (two 149)))).mono ?_
  rintro e W5 ⟨A5, k5, c5, rfl, v5, hC⟩
  have hB5 := hB4.trans (hC.mono hz4)
  have hz5 := hB5.size
  have v1 := v1.below hC
  have v2 := v2.below hC
  have v3 := v3.below hC
  have v4 := v4.below hC
  clear hC hB4 hz4
  go_wp2_with fail
  refine (rounded_any v3 v5 (Lib.hid (amt_amt (by omega) (by omega))) (Lib.hid big149)).mono ?_
  rintro e W6 ⟨rfl, hC⟩
  have hB6 := hB5.trans (hC.mono hz5)
  clear hC hB5 hz5
  go_wp2
  go_ret
  exact ⟨by rw [HE.out]; try rfl, hB6⟩
end Go.Proofs.Ytanccobllehnaaa
