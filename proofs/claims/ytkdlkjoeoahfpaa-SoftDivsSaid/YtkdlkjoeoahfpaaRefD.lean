/- The contract of the document's DivBy. -/
import Derived.Test.YtkdlkjoeoahfpaaRefH
namespace Go.Proofs.Ytkdlkjoeoahfpaa
open Go.RowKit

set_option maxRecDepth 100000 in
set_option maxHeartbeats 1600000 in
theorem rdiv_any (way : Int) (a b : Nat) (w : World) (h : Hid (a < 4294967296)) (h' : Hid (b < 4294967296)) :
    Calls Try.prog 17 #[.int .i64 way, .int .u32 (a : Int), .int .u32 (b : Int)] w (BR w (divP way a b)) := by
  obtain ⟨x, hx⟩ : ∃ x, absP a = x := ⟨_, rfl⟩
  obtain ⟨y, hy⟩ : ∃ y, absP b = y := ⟨_, rfl⟩
  obtain ⟨sa, hsa⟩ : ∃ s, decide (2147483648 ≤ a) = s := ⟨_, rfl⟩
  obtain ⟨sb, hsb⟩ : ∃ s, decide (2147483648 ≤ b) = s := ⟨_, rfl⟩
  have HX := Lib.hid hx
  have HY := Lib.hid hy
  have SA := Lib.hid hsa
  have SB := Lib.hid hsb
  obtain ⟨sn, hsn⟩ : ∃ s, (sa != sb) = s := ⟨_, rfl⟩
  have hsn2 : (!(sa == sb)) = sn := hsn
  have SN : Hid (sgnX a b = sn) := Lib.hid (by unfold sgnX; rw [hsa, hsb, hsn])
  cases hna : nanP a
  case true =>
    have NA := Lib.hid hna
    have HE : Hid (divP way a b = 2143289344) := Lib.hid (div_none way (.inl hna))
    clear hna hx hy hsa hsb
    go_enter Try.func17, Try.ntmps17
    have hB0 := Below.refl w.heap.size w
    have hz0 := hB0.size
    go_wp2_with fail
    refine (rbelow_at SA).mono ?_
    rintro e w' ⟨rfl, rfl⟩
    go_wp2_with fail
    refine (rbelow_at SB).mono ?_
    rintro e w' ⟨rfl, rfl⟩
    go_wp2_with fail
    refine (rnone_at h NA).mono ?_
    rintro e w' ⟨rfl, rfl⟩
    go_wp2
    go_ret
    exact ⟨by rw [HE.out]; try rfl, hB0⟩
  have NA := Lib.hid hna
  cases hnb : nanP b
  case true =>
    have NB := Lib.hid hnb
    have HE : Hid (divP way a b = 2143289344) := Lib.hid (div_none way (.inr (.inl hnb)))
    clear hna hnb hx hy hsa hsb
    go_enter Try.func17, Try.ntmps17
    have hB0 := Below.refl w.heap.size w
    have hz0 := hB0.size
    go_wp2_with fail
    refine (rbelow_at SA).mono ?_
    rintro e w' ⟨rfl, rfl⟩
    go_wp2_with fail
    refine (rbelow_at SB).mono ?_
    rintro e w' ⟨rfl, rfl⟩
    go_wp2_with fail
    refine (rnone_at h NA).mono ?_
    rintro e w' ⟨rfl, rfl⟩
    go_wp2_with fail
    refine (rnone_at h' NB).mono ?_
    rintro e w' ⟨rfl, rfl⟩
    go_wp2
    go_ret
    exact ⟨by rw [HE.out]; try rfl, hB0⟩
  have NB := Lib.hid hnb
  by_cases hxi : x = 2139095040
  case pos =>
    have IA : infP a = true := inf_abs.2 (hx.trans hxi)
    have bx : ((x : Int) == 2139095040) = true := int_eq hxi
    have bx0 : ((x : Int) == 0) = false := int_ne (y := 0) (by omega)
    by_cases hyi : y = 2139095040
    · have IB : infP b = true := inf_abs.2 (hy.trans hyi)
      have by' : ((y : Int) == 2139095040) = true := int_eq hyi
      have HE : Hid (divP way a b = 2143289344) := Lib.hid (div_none way (.inr (.inr (.inl ⟨IA, IB⟩))))
      clear hna hnb hx hy hsa hsb IA IB hxi hyi
      go_enter Try.func17, Try.ntmps17
      have hB0 := Below.refl w.heap.size w
      have hz0 := hB0.size
      go_wp2_with fail
      refine (rbelow_at SA).mono ?_
      rintro e w' ⟨rfl, rfl⟩
      go_wp2_with fail
      refine (rbelow_at SB).mono ?_
      rintro e w' ⟨rfl, rfl⟩
      go_wp2_with fail
      refine (rnone_at h NA).mono ?_
      rintro e w' ⟨rfl, rfl⟩
      go_wp2_with fail
      refine (rnone_at h' NB).mono ?_
      rintro e w' ⟨rfl, rfl⟩
      go_wp2_with fail
      refine (rabs_at h HX).mono ?_
      rintro e w' ⟨rfl, rfl⟩
      go_wp2_with fail
      refine (rabs_at h' HY).mono ?_
      rintro e w' ⟨rfl, rfl⟩
      go_wp2
      go_ret
      exact ⟨by rw [HE.out]; try rfl, hB0⟩
    · have IB : infP b = false := by
        cases h : infP b
        · rfl
        · exact absurd (hy.symm.trans (inf_abs.1 h)) hyi
      have by' : ((y : Int) == 2139095040) = false := int_ne hyi
      have HE : Hid (divP way a b = sgn sn + 2139095040) := Lib.hid (by rw [div_inf way hna hnb (.inl ⟨IA, IB⟩), SN.out])
      clear hna hnb hx hy hsa hsb IA IB hxi hyi
      go_enter Try.func17, Try.ntmps17
      have hB0 := Below.refl w.heap.size w
      have hz0 := hB0.size
      go_wp2_with fail
      refine (rbelow_at SA).mono ?_
      rintro e w' ⟨rfl, rfl⟩
      go_wp2_with fail
      refine (rbelow_at SB).mono ?_
      rintro e w' ⟨rfl, rfl⟩
      go_wp2_with fail
      refine (rnone_at h NA).mono ?_
      rintro e w' ⟨rfl, rfl⟩
      go_wp2_with fail
      refine (rnone_at h' NB).mono ?_
      rintro e w' ⟨rfl, rfl⟩
      go_wp2_with fail
      refine (rabs_at h HX).mono ?_
      rintro e w' ⟨rfl, rfl⟩
      go_wp2_with fail
      refine (rabs_at h' HY).mono ?_
      rintro e w' ⟨rfl, rfl⟩
      go_wp2_with fail
      refine (rabs_at h HX).mono ?_
      rintro e w' ⟨rfl, rfl⟩
      go_wp2_with fail
      refine (rabs_at h HX).mono ?_
      rintro e w' ⟨rfl, rfl⟩
      go_wp2_with fail
      refine (signed_any sn 2139095040 _ (by decide)).mono ?_
      rintro e w' ⟨rfl, rfl⟩
      go_wp2
      go_ret
      exact ⟨by rw [HE.out]; try rfl, hB0⟩
  have IA : infP a = false := by cases h : infP a; · rfl
                                 · exact absurd (hx.symm.trans (inf_abs.1 h)) hxi
  have bx : ((x : Int) == 2139095040) = false := int_ne hxi
  by_cases hx0 : x = 0
  case pos =>
    have bx0 : ((x : Int) == 0) = true := int_eq (y := 0) hx0
    by_cases hy0 : y = 0
    · have by0 : ((y : Int) == 0) = true := int_eq (y := 0) hy0
      have HE : Hid (divP way a b = 2143289344) := Lib.hid (div_none way (.inr (.inr (.inr ⟨hx.trans hx0, hy.trans hy0⟩))))
      clear hna hnb hx hy hsa hsb IA hxi hx0 hy0
      go_enter Try.func17, Try.ntmps17
      have hB0 := Below.refl w.heap.size w
      have hz0 := hB0.size
      go_wp2_with fail
      refine (rbelow_at SA).mono ?_
      rintro e w' ⟨rfl, rfl⟩
      go_wp2_with fail
      refine (rbelow_at SB).mono ?_
      rintro e w' ⟨rfl, rfl⟩
      go_wp2_with fail
      refine (rnone_at h NA).mono ?_
      rintro e w' ⟨rfl, rfl⟩
      go_wp2_with fail
      refine (rnone_at h' NB).mono ?_
      rintro e w' ⟨rfl, rfl⟩
      go_wp2_with fail
      refine (rabs_at h HX).mono ?_
      rintro e w' ⟨rfl, rfl⟩
      go_wp2_with fail
      refine (rabs_at h HX).mono ?_
      rintro e w' ⟨rfl, rfl⟩
      go_wp2_with fail
      refine (rabs_at h' HY).mono ?_
      rintro e w' ⟨rfl, rfl⟩
      go_wp2
      go_ret
      exact ⟨by rw [HE.out]; try rfl, hB0⟩
    · have by0 : ((y : Int) == 0) = false := int_ne (y := 0) hy0
      have HE : Hid (divP way a b = sgn sn + 0) := Lib.hid (by rw [div_nil way hna hnb (.inr ⟨hx.trans hx0, by rw [hy]; exact hy0⟩), SN.out]; rfl)
      by_cases hyi : y = 2139095040
      · have by' : ((y : Int) == 2139095040) = true := int_eq hyi
        clear hna hnb hx hy hsa hsb IA hxi hx0 hy0 hyi
        go_enter Try.func17, Try.ntmps17
        have hB0 := Below.refl w.heap.size w
        have hz0 := hB0.size
        go_wp2_with fail
        refine (rbelow_at SA).mono ?_
        rintro e w' ⟨rfl, rfl⟩
        go_wp2_with fail
        refine (rbelow_at SB).mono ?_
        rintro e w' ⟨rfl, rfl⟩
        go_wp2_with fail
        refine (rnone_at h NA).mono ?_
        rintro e w' ⟨rfl, rfl⟩
        go_wp2_with fail
        refine (rnone_at h' NB).mono ?_
        rintro e w' ⟨rfl, rfl⟩
        go_wp2_with fail
        refine (rabs_at h HX).mono ?_
        rintro e w' ⟨rfl, rfl⟩
        go_wp2_with fail
        refine (rabs_at h HX).mono ?_
        rintro e w' ⟨rfl, rfl⟩
        go_wp2_with fail
        refine (rabs_at h' HY).mono ?_
        rintro e w' ⟨rfl, rfl⟩
        go_wp2_with fail
        refine (rabs_at h HX).mono ?_
        rintro e w' ⟨rfl, rfl⟩
        go_wp2_with fail
        refine (rabs_at h' HY).mono ?_
        rintro e w' ⟨rfl, rfl⟩
        go_wp2_with fail
        refine (rabs_at h' HY).mono ?_
        rintro e w' ⟨rfl, rfl⟩
        go_wp2_with fail
        refine (signed_any sn 0 _ (by decide)).mono ?_
        rintro e w' ⟨rfl, rfl⟩
        go_wp2
        go_ret
        exact ⟨by rw [HE.out]; try rfl, hB0⟩
      · have by' : ((y : Int) == 2139095040) = false := int_ne hyi
        clear hna hnb hx hy hsa hsb IA hxi hx0 hy0 hyi
        go_enter Try.func17, Try.ntmps17
        have hB0 := Below.refl w.heap.size w
        have hz0 := hB0.size
        go_wp2_with fail
        refine (rbelow_at SA).mono ?_
        rintro e w' ⟨rfl, rfl⟩
        go_wp2_with fail
        refine (rbelow_at SB).mono ?_
        rintro e w' ⟨rfl, rfl⟩
        go_wp2_with fail
        refine (rnone_at h NA).mono ?_
        rintro e w' ⟨rfl, rfl⟩
        go_wp2_with fail
        refine (rnone_at h' NB).mono ?_
        rintro e w' ⟨rfl, rfl⟩
        go_wp2_with fail
        refine (rabs_at h HX).mono ?_
        rintro e w' ⟨rfl, rfl⟩
        go_wp2_with fail
        refine (rabs_at h HX).mono ?_
        rintro e w' ⟨rfl, rfl⟩
        go_wp2_with fail
        refine (rabs_at h' HY).mono ?_
        rintro e w' ⟨rfl, rfl⟩
        go_wp2_with fail
        refine (rabs_at h HX).mono ?_
        rintro e w' ⟨rfl, rfl⟩
        go_wp2_with fail
        refine (rabs_at h' HY).mono ?_
        rintro e w' ⟨rfl, rfl⟩
        go_wp2_with fail
        refine (rabs_at h' HY).mono ?_
        rintro e w' ⟨rfl, rfl⟩
        go_wp2_with fail
        refine (rabs_at h HX).mono ?_
        rintro e w' ⟨rfl, rfl⟩
        go_wp2_with fail
        refine (signed_any sn 0 _ (by decide)).mono ?_
        rintro e w' ⟨rfl, rfl⟩
        go_wp2
        go_ret
        exact ⟨by rw [HE.out]; try rfl, hB0⟩
  have bx0 : ((x : Int) == 0) = false := int_ne (y := 0) hx0
  by_cases hy0 : y = 0
  case pos =>
    have by0 : ((y : Int) == 0) = true := int_eq (y := 0) hy0
    have HE : Hid (divP way a b = sgn sn + 2139095040) := Lib.hid (by rw [div_inf way hna hnb (.inr ⟨hy.trans hy0, by rw [hx]; exact hx0⟩), SN.out])
    clear hna hnb hx hy hsa hsb IA hxi hx0 hy0
    go_enter Try.func17, Try.ntmps17
    have hB0 := Below.refl w.heap.size w
    have hz0 := hB0.size
    go_wp2_with fail
    refine (rbelow_at SA).mono ?_
    rintro e w' ⟨rfl, rfl⟩
    go_wp2_with fail
    refine (rbelow_at SB).mono ?_
    rintro e w' ⟨rfl, rfl⟩
    go_wp2_with fail
    refine (rnone_at h NA).mono ?_
    rintro e w' ⟨rfl, rfl⟩
    go_wp2_with fail
    refine (rnone_at h' NB).mono ?_
    rintro e w' ⟨rfl, rfl⟩
    go_wp2_with fail
    refine (rabs_at h HX).mono ?_
    rintro e w' ⟨rfl, rfl⟩
    go_wp2_with fail
    refine (rabs_at h HX).mono ?_
    rintro e w' ⟨rfl, rfl⟩
    go_wp2_with fail
    refine (rabs_at h HX).mono ?_
    rintro e w' ⟨rfl, rfl⟩
    go_wp2_with fail
    refine (rabs_at h' HY).mono ?_
    rintro e w' ⟨rfl, rfl⟩
    go_wp2_with fail
    refine (signed_any sn 2139095040 _ (by decide)).mono ?_
    rintro e w' ⟨rfl, rfl⟩
    go_wp2
    go_ret
    exact ⟨by rw [HE.out]; try rfl, hB0⟩
  have by0 : ((y : Int) == 0) = false := int_ne (y := 0) hy0
  by_cases hyi : y = 2139095040
  case pos =>
    have IB : infP b = true := inf_abs.2 (hy.trans hyi)
    have by' : ((y : Int) == 2139095040) = true := int_eq hyi
    have HE : Hid (divP way a b = sgn sn + 0) := Lib.hid (by rw [div_nil way hna hnb (.inl ⟨IB, IA⟩), SN.out]; rfl)
    clear hna hnb hx hy hsa hsb IA IB hxi hyi hx0 hy0
    go_enter Try.func17, Try.ntmps17
    have hB0 := Below.refl w.heap.size w
    have hz0 := hB0.size
    go_wp2_with fail
    refine (rbelow_at SA).mono ?_
    rintro e w' ⟨rfl, rfl⟩
    go_wp2_with fail
    refine (rbelow_at SB).mono ?_
    rintro e w' ⟨rfl, rfl⟩
    go_wp2_with fail
    refine (rnone_at h NA).mono ?_
    rintro e w' ⟨rfl, rfl⟩
    go_wp2_with fail
    refine (rnone_at h' NB).mono ?_
    rintro e w' ⟨rfl, rfl⟩
    go_wp2_with fail
    refine (rabs_at h HX).mono ?_
    rintro e w' ⟨rfl, rfl⟩
    go_wp2_with fail
    refine (rabs_at h HX).mono ?_
    rintro e w' ⟨rfl, rfl⟩
    go_wp2_with fail
    refine (rabs_at h HX).mono ?_
    rintro e w' ⟨rfl, rfl⟩
    go_wp2_with fail
    refine (rabs_at h' HY).mono ?_
    rintro e w' ⟨rfl, rfl⟩
    go_wp2_with fail
    refine (rabs_at h' HY).mono ?_
    rintro e w' ⟨rfl, rfl⟩
    go_wp2_with fail
    refine (signed_any sn 0 _ (by decide)).mono ?_
    rintro e w' ⟨rfl, rfl⟩
    go_wp2
    go_ret
    exact ⟨by rw [HE.out]; try rfl, hB0⟩
  have IB : infP b = false := by cases h : infP b; · rfl
                                 · exact absurd (hy.symm.trans (inf_abs.1 h)) hyi
  have by' : ((y : Int) == 2139095040) = false := int_ne hyi
  have lx := fin_abs hna IA
  have ly := fin_abs hnb IB
  rw [hx] at lx
  rw [hy] at ly
  have HE : Hid (divP way a b = rnd way sn (two 149 * amt x) (amt y)) := Lib.hid (by rw [div_fin way hna hnb IA IB (by rw [hx]; exact hx0) (by rw [hy]; exact hy0), SN.out, hx, hy])
  clear hna hnb hx hy hsa hsb IA IB hxi hyi hx0 hy0
  go_enter Try.func17, Try.ntmps17
  have hB0 := Below.refl w.heap.size w
  have hz0 := hB0.size
  go_wp2_with fail
  refine (rbelow_at SA).mono ?_
  rintro e w' ⟨rfl, rfl⟩
  go_wp2_with fail
  refine (rbelow_at SB).mono ?_
  rintro e w' ⟨rfl, rfl⟩
  go_wp2_with fail
  refine (rnone_at h NA).mono ?_
  rintro e w' ⟨rfl, rfl⟩
  go_wp2_with fail
  refine (rnone_at h' NB).mono ?_
  rintro e w' ⟨rfl, rfl⟩
  go_wp2_with fail
  refine (rabs_at h HX).mono ?_
  rintro e w' ⟨rfl, rfl⟩
  go_wp2_with fail
  refine (rabs_at h HX).mono ?_
  rintro e w' ⟨rfl, rfl⟩
  go_wp2_with fail
  refine (rabs_at h HX).mono ?_
  rintro e w' ⟨rfl, rfl⟩
  go_wp2_with fail
  refine (rabs_at h' HY).mono ?_
  rintro e w' ⟨rfl, rfl⟩
  go_wp2_with fail
  refine (rabs_at h' HY).mono ?_
  rintro e w' ⟨rfl, rfl⟩
  go_wp2_with fail
  refine (rabs_at h HX).mono ?_
  rintro e w' ⟨rfl, rfl⟩
  go_wp2_with fail
  refine (rabs_at h HX).mono ?_
  rintro e w' ⟨rfl, rfl⟩
  go_wp2_with fail
  refine (amount_nv x _ (by omega)).mono ?_
  rintro e W1 ⟨A1, k1, c1, rfl, v1, hC⟩
  have hB1 := hB0.trans (hC.mono hz0)
  have hz1 := hB1.size
  clear hC hB0 hz0
  go_wp2_with fail
  refine (twice_nv (k := 149) v1 (amt_big (by omega)) (by omega) (Lib.hid rfl)).mono ?_
  rintro e W2 ⟨A2, k2, c2, rfl, v2, hC⟩
  have hB2 := hB1.trans (hC.mono hz1)
  have hz2 := hB2.size
  have v1 := v1.below hC
  clear hC hB1 hz1
  go_wp2_with fail
  refine (rabs_at h' HY).mono ?_
  rintro e w' ⟨rfl, rfl⟩
  go_wp2_with fail
  refine (amount_nv y _ (by omega)).mono ?_
  rintro e W3 ⟨A3, k3, c3, rfl, v3, hC⟩
  have hB3 := hB2.trans (hC.mono hz2)
  have hz3 := hB3.size
  have v1 := v1.below hC
  have v2 := v2.below hC
  clear hC hB2 hz2
  go_wp2_with fail
  refine (rounded_any v2 v3 (Lib.hid (amt_149 (by omega))) (Lib.hid (amt_ten (by omega)))).mono ?_
  rintro e W4 ⟨rfl, hC⟩
  have hB4 := hB3.trans (hC.mono hz3)
  clear hC hB3 hz3
  go_wp2
  go_ret
  exact ⟨by rw [HE.out]; try rfl, hB4⟩
end Go.Proofs.Ytkdlkjoeoahfpaa
