/- The contract of the document's AddBy. -/
import Derived.Test.YtkdlkjoeoahfpaaRefH
namespace Go.Proofs.Ytkdlkjoeoahfpaa
open Go.RowKit

set_option maxRecDepth 100000 in
set_option maxHeartbeats 1600000 in
theorem radd_any (way : Int) (a b : Nat) (w : World) (h : Hid (a < 4294967296)) (h' : Hid (b < 4294967296)) :
    Calls Try.prog 26 #[.int .i64 way, .int .u32 (a : Int), .int .u32 (b : Int)] w (BR w (addP way a b)) := by
  obtain ⟨x, hx⟩ : ∃ x, absP a = x := ⟨_, rfl⟩
  obtain ⟨y, hy⟩ : ∃ y, absP b = y := ⟨_, rfl⟩
  obtain ⟨sa, hsa⟩ : ∃ s, decide (2147483648 ≤ a) = s := ⟨_, rfl⟩
  obtain ⟨sb, hsb⟩ : ∃ s, decide (2147483648 ≤ b) = s := ⟨_, rfl⟩
  have HX := Lib.hid hx
  have HY := Lib.hid hy
  have SA := Lib.hid hsa
  have SB := Lib.hid hsb
  cases hna : nanP a
  case true =>
    have NA := Lib.hid hna
    have HE : Hid (addP way a b = 2143289344) := Lib.hid (add_none way h.out h'.out (.inl hna))
    clear hna hx hy hsa hsb
    go_enter Try.func26, Try.ntmps26
    have hB0 := Below.refl w.heap.size w
    have hz0 := hB0.size
    go_wp2_with fail
    refine (rnone_at h NA).mono ?_
    rintro e w' ⟨rfl, rfl⟩
    go_wp2
    go_ret
    exact ⟨by rw [HE.out]; try rfl, hB0⟩
  have NA := Lib.hid hna
  cases hnb : nanP b
  case true =>
    have NB := Lib.hid hnb
    have HE : Hid (addP way a b = 2143289344) := Lib.hid (add_none way h.out h'.out (.inr (.inl hnb)))
    clear hna hnb hx hy hsa hsb
    go_enter Try.func26, Try.ntmps26
    have hB0 := Below.refl w.heap.size w
    have hz0 := hB0.size
    go_wp2_with fail
    refine (rnone_at h NA).mono ?_
    rintro e w' ⟨rfl, rfl⟩
    go_wp2_with fail
    refine (rnone_at h' NB).mono ?_
    rintro e w' ⟨rfl, rfl⟩
    go_wp2
    go_ret
    exact ⟨by rw [HE.out]; try rfl, hB0⟩
  have NB := Lib.hid hnb
  by_cases hxi : x = 2139095040
  case pos =>
    have IA : infP a = true := inf_abs.2 (hx.trans hxi)
    have bx : ((x : Int) == 2139095040) = true := int_eq hxi
    by_cases hyi : y = 2139095040
    · have IB : infP b = true := inf_abs.2 (hy.trans hyi)
      have bxy : ((x : Int) == (y : Int)) = true := int_eq (hxi.trans hyi.symm)
      by_cases hab : a = b
      · have bab : ((a : Int) != (b : Int)) = false := by rw [hab]; simp
        have HE : Hid (addP way a b = a) := Lib.hid (by rw [add_inf way hna hnb (.inl ⟨IA, .inr hab⟩), IA]; rfl)
        clear hna hnb hx hy hsa hsb IA IB hxi hyi hab
        go_enter Try.func26, Try.ntmps26
        have hB0 := Below.refl w.heap.size w
        have hz0 := hB0.size
        go_wp2_with fail
        refine (rnone_at h NA).mono ?_
        rintro e w' ⟨rfl, rfl⟩
        go_wp2_with fail
        refine (rnone_at h' NB).mono ?_
        rintro e w' ⟨rfl, rfl⟩
        go_wp2_with fail
        refine (rabs_at h HX).mono ?_
        rintro e w' ⟨rfl, rfl⟩
        go_wp2_with fail
        refine (rabs_at h HX).mono ?_
        rintro e w' ⟨rfl, rfl⟩
        go_wp2_with fail
        refine (rabs_at h' HY).mono ?_
        rintro e w' ⟨rfl, rfl⟩
        go_wp2_with fail
        refine (rabs_at h HX).mono ?_
        rintro e w' ⟨rfl, rfl⟩
        go_wp2
        go_ret
        exact ⟨by rw [HE.out]; try rfl, hB0⟩
      · have bab : ((a : Int) != (b : Int)) = true := by rw [bne_iff_ne]; omega
        have HE : Hid (addP way a b = 2143289344) := Lib.hid (add_none way h.out h'.out (.inr (.inr ⟨IA, IB, hab⟩)))
        clear hna hnb hx hy hsa hsb IA IB hxi hyi hab
        go_enter Try.func26, Try.ntmps26
        have hB0 := Below.refl w.heap.size w
        have hz0 := hB0.size
        go_wp2_with fail
        refine (rnone_at h NA).mono ?_
        rintro e w' ⟨rfl, rfl⟩
        go_wp2_with fail
        refine (rnone_at h' NB).mono ?_
        rintro e w' ⟨rfl, rfl⟩
        go_wp2_with fail
        refine (rabs_at h HX).mono ?_
        rintro e w' ⟨rfl, rfl⟩
        go_wp2_with fail
        refine (rabs_at h HX).mono ?_
        rintro e w' ⟨rfl, rfl⟩
        go_wp2_with fail
        refine (rabs_at h' HY).mono ?_
        rintro e w' ⟨rfl, rfl⟩
        go_wp2
        go_ret
        exact ⟨by rw [HE.out]; try rfl, hB0⟩
    · have IB : infP b = false := by
        cases h : infP b
        · rfl
        · exact absurd (hy.symm.trans (inf_abs.1 h)) hyi
      have bxy : ((x : Int) == (y : Int)) = false := int_ne (by omega)
      have HE : Hid (addP way a b = a) := Lib.hid (by rw [add_inf way hna hnb (.inl ⟨IA, .inl IB⟩), IA]; rfl)
      clear hna hnb hx hy hsa hsb IA IB hxi hyi
      go_enter Try.func26, Try.ntmps26
      have hB0 := Below.refl w.heap.size w
      have hz0 := hB0.size
      go_wp2_with fail
      refine (rnone_at h NA).mono ?_
      rintro e w' ⟨rfl, rfl⟩
      go_wp2_with fail
      refine (rnone_at h' NB).mono ?_
      rintro e w' ⟨rfl, rfl⟩
      go_wp2_with fail
      refine (rabs_at h HX).mono ?_
      rintro e w' ⟨rfl, rfl⟩
      go_wp2_with fail
      refine (rabs_at h HX).mono ?_
      rintro e w' ⟨rfl, rfl⟩
      go_wp2_with fail
      refine (rabs_at h' HY).mono ?_
      rintro e w' ⟨rfl, rfl⟩
      go_wp2_with fail
      refine (rabs_at h HX).mono ?_
      rintro e w' ⟨rfl, rfl⟩
      go_wp2
      go_ret
      exact ⟨by rw [HE.out]; try rfl, hB0⟩
  have IA : infP a = false := by cases h : infP a; · rfl
                                 · exact absurd (hx.symm.trans (inf_abs.1 h)) hxi
  have bx : ((x : Int) == 2139095040) = false := int_ne hxi
  by_cases hyi : y = 2139095040
  case pos =>
    have IB : infP b = true := inf_abs.2 (hy.trans hyi)
    have by' : ((y : Int) == 2139095040) = true := int_eq hyi
    have bxy : ((x : Int) == (y : Int)) = false := int_ne (by omega)
    have HE : Hid (addP way a b = b) := Lib.hid (by rw [add_inf way hna hnb (.inr ⟨IA, IB⟩), IA]; rfl)
    clear hna hnb hx hy hsa hsb IA IB hxi hyi
    go_enter Try.func26, Try.ntmps26
    have hB0 := Below.refl w.heap.size w
    have hz0 := hB0.size
    go_wp2_with fail
    refine (rnone_at h NA).mono ?_
    rintro e w' ⟨rfl, rfl⟩
    go_wp2_with fail
    refine (rnone_at h' NB).mono ?_
    rintro e w' ⟨rfl, rfl⟩
    go_wp2_with fail
    refine (rabs_at h HX).mono ?_
    rintro e w' ⟨rfl, rfl⟩
    go_wp2_with fail
    refine (rabs_at h' HY).mono ?_
    rintro e w' ⟨rfl, rfl⟩
    go_wp2_with fail
    refine (rabs_at h HX).mono ?_
    rintro e w' ⟨rfl, rfl⟩
    go_wp2_with fail
    refine (rabs_at h' HY).mono ?_
    rintro e w' ⟨rfl, rfl⟩
    go_wp2_with fail
    refine (rabs_at h HX).mono ?_
    rintro e w' ⟨rfl, rfl⟩
    go_wp2
    go_ret
    exact ⟨by rw [HE.out]; try rfl, hB0⟩
  have IB : infP b = false := by cases h : infP b; · rfl
                                 · exact absurd (hy.symm.trans (inf_abs.1 h)) hyi
  have by' : ((y : Int) == 2139095040) = false := int_ne hyi
  have lx := fin_abs hna IA
  have ly := fin_abs hnb IB
  rw [hx] at lx
  rw [hy] at ly
  have hl := add_law way hna IA hnb IB
  rw [hx, hy, hsa, hsb] at hl
  by_cases hss : sa = sb
  case pos =>
    have bss : (sa == sb) = true := by rw [hss]; simp
    by_cases hx0 : x = 0
    · by_cases hy0 : y = 0
      · have HE : Hid (addP way a b = a) := Lib.hid (by
          rw [hl, if_pos ⟨hx0, hy0⟩, if_pos]
          rw [hss, ← hsb] at hsa
          have hd := (decide_eq_decide.1 hsa)
          unfold absP at hx hy
          have h1 := h.out
          have h2 := h'.out
          omega)
        have X0 := Lib.hid hx0
        have Y0 := Lib.hid hy0
        clear hna hnb hx hy hsa hsb IA IB hxi hyi hl hss hx0 hy0
        go_enter Try.func26, Try.ntmps26
        have hB0 := Below.refl w.heap.size w
        have hz0 := hB0.size
        go_wp2_with fail
        refine (rnone_at h NA).mono ?_
        rintro e w' ⟨rfl, rfl⟩
        go_wp2_with fail
        refine (rnone_at h' NB).mono ?_
        rintro e w' ⟨rfl, rfl⟩
        go_wp2_with fail
        refine (rabs_at h HX).mono ?_
        rintro e w' ⟨rfl, rfl⟩
        go_wp2_with fail
        refine (rabs_at h' HY).mono ?_
        rintro e w' ⟨rfl, rfl⟩
        go_wp2_with fail
        refine (rabs_at h HX).mono ?_
        rintro e w' ⟨rfl, rfl⟩
        go_wp2_with fail
        refine (amount_nv x _ (by omega)).mono ?_
        rintro e W1 ⟨A1, k1, c1, rfl, v1, hC⟩
        have hB1 := hB0.trans (hC.mono hz0)
        have hz1 := hB1.size
        clear hC hB0 hz0
        go_wp2_with fail
        refine (rabs_at h' HY).mono ?_
        rintro e w' ⟨rfl, rfl⟩
        go_wp2_with fail
        refine (amount_nv y _ (by omega)).mono ?_
        rintro e W2 ⟨A2, k2, c2, rfl, v2, hC⟩
        have hB2 := hB1.trans (hC.mono hz1)
        have hz2 := hB2.size
        have v1 := v1.below hC
        clear hC hB1 hz1
        go_wp2_with fail
        refine (rbelow_at SA).mono ?_
        rintro e w' ⟨rfl, rfl⟩
        go_wp2_with fail
        refine (rbelow_at SB).mono ?_
        rintro e w' ⟨rfl, rfl⟩
        have l1 := nil_len v1 (amt_nil.2 X0.out)
        have l2 := nil_len v2 (amt_nil.2 Y0.out)
        go_wp2
        go_ret
        exact ⟨by rw [HE.out]; try rfl, hB2⟩
      · have HE : Hid (addP way a b = rnd way sa (amt x + amt y) 1) := Lib.hid (by rw [hl, if_neg (by omega)]; unfold sumL; rw [if_pos hss])
        have X0 := Lib.hid hx0
        have Y0 := Lib.hid hy0
        clear hna hnb hx hy hsa hsb IA IB hxi hyi hl hss hx0 hy0
        go_enter Try.func26, Try.ntmps26
        have hB0 := Below.refl w.heap.size w
        have hz0 := hB0.size
        go_wp2_with fail
        refine (rnone_at h NA).mono ?_
        rintro e w' ⟨rfl, rfl⟩
        go_wp2_with fail
        refine (rnone_at h' NB).mono ?_
        rintro e w' ⟨rfl, rfl⟩
        go_wp2_with fail
        refine (rabs_at h HX).mono ?_
        rintro e w' ⟨rfl, rfl⟩
        go_wp2_with fail
        refine (rabs_at h' HY).mono ?_
        rintro e w' ⟨rfl, rfl⟩
        go_wp2_with fail
        refine (rabs_at h HX).mono ?_
        rintro e w' ⟨rfl, rfl⟩
        go_wp2_with fail
        refine (amount_nv x _ (by omega)).mono ?_
        rintro e W1 ⟨A1, k1, c1, rfl, v1, hC⟩
        have hB1 := hB0.trans (hC.mono hz0)
        have hz1 := hB1.size
        clear hC hB0 hz0
        go_wp2_with fail
        refine (rabs_at h' HY).mono ?_
        rintro e w' ⟨rfl, rfl⟩
        go_wp2_with fail
        refine (amount_nv y _ (by omega)).mono ?_
        rintro e W2 ⟨A2, k2, c2, rfl, v2, hC⟩
        have hB2 := hB1.trans (hC.mono hz1)
        have hz2 := hB2.size
        have v1 := v1.below hC
        clear hC hB1 hz1
        go_wp2_with fail
        refine (rbelow_at SA).mono ?_
        rintro e w' ⟨rfl, rfl⟩
        go_wp2_with fail
        refine (rbelow_at SB).mono ?_
        rintro e w' ⟨rfl, rfl⟩
        have l1 := nil_len v1 (amt_nil.2 X0.out)
        have l2 := some_len v2 (fun e => Y0.out (amt_nil.1 e))
        go_wp2_with fail
        refine (rbelow_at SA).mono ?_
        rintro e w' ⟨rfl, rfl⟩
        go_wp2_with fail
        refine (plus_nv v1 v2 (amt_big (by omega)) (amt_big (by omega)) (Lib.hid rfl)).mono ?_
        rintro e W3 ⟨A3, k3, c3, rfl, v3, hC⟩
        have hB3 := hB2.trans (hC.mono hz2)
        have hz3 := hB3.size
        have v1 := v1.below hC
        have v2 := v2.below hC
        clear hC hB2 hz2
        go_wp2_with fail
        refine (of_nv 1 _ (Lib.hid (by decide))).mono ?_
        rintro e W4 ⟨A4, k4, c4, rfl, v4, hC⟩
        have hB4 := hB3.trans (hC.mono hz3)
        have hz4 := hB4.size
        have v1 := v1.below hC
        have v2 := v2.below hC
        have v3 := v3.below hC
        clear hC hB3 hz3
        go_wp2_with fail
        refine (rounded_any v3 v4 (Lib.hid (amt_plus (by omega) (by omega))) (Lib.hid big_1)).mono ?_
        rintro e W5 ⟨rfl, hC⟩
        have hB5 := hB4.trans (hC.mono hz4)
        clear hC hB4 hz4
        go_wp2
        go_ret
        exact ⟨by rw [HE.out]; try rfl, hB5⟩
    · have HE : Hid (addP way a b = rnd way sa (amt x + amt y) 1) := Lib.hid (by rw [hl, if_neg (by omega)]; unfold sumL; rw [if_pos hss])
      have X0 := Lib.hid hx0
      clear hna hnb hx hy hsa hsb IA IB hxi hyi hl hss hx0
      go_enter Try.func26, Try.ntmps26
      have hB0 := Below.refl w.heap.size w
      have hz0 := hB0.size
      go_wp2_with fail
      refine (rnone_at h NA).mono ?_
      rintro e w' ⟨rfl, rfl⟩
      go_wp2_with fail
      refine (rnone_at h' NB).mono ?_
      rintro e w' ⟨rfl, rfl⟩
      go_wp2_with fail
      refine (rabs_at h HX).mono ?_
      rintro e w' ⟨rfl, rfl⟩
      go_wp2_with fail
      refine (rabs_at h' HY).mono ?_
      rintro e w' ⟨rfl, rfl⟩
      go_wp2_with fail
      refine (rabs_at h HX).mono ?_
      rintro e w' ⟨rfl, rfl⟩
      go_wp2_with fail
      refine (amount_nv x _ (by omega)).mono ?_
      rintro e W1 ⟨A1, k1, c1, rfl, v1, hC⟩
      have hB1 := hB0.trans (hC.mono hz0)
      have hz1 := hB1.size
      clear hC hB0 hz0
      go_wp2_with fail
      refine (rabs_at h' HY).mono ?_
      rintro e w' ⟨rfl, rfl⟩
      go_wp2_with fail
      refine (amount_nv y _ (by omega)).mono ?_
      rintro e W2 ⟨A2, k2, c2, rfl, v2, hC⟩
      have hB2 := hB1.trans (hC.mono hz1)
      have hz2 := hB2.size
      have v1 := v1.below hC
      clear hC hB1 hz1
      go_wp2_with fail
      refine (rbelow_at SA).mono ?_
      rintro e w' ⟨rfl, rfl⟩
      go_wp2_with fail
      refine (rbelow_at SB).mono ?_
      rintro e w' ⟨rfl, rfl⟩
      have l1 := some_len v1 (fun e => X0.out (amt_nil.1 e))
      go_wp2_with fail
      refine (rbelow_at SA).mono ?_
      rintro e w' ⟨rfl, rfl⟩
      go_wp2_with fail
      refine (plus_nv v1 v2 (amt_big (by omega)) (amt_big (by omega)) (Lib.hid rfl)).mono ?_
      rintro e W3 ⟨A3, k3, c3, rfl, v3, hC⟩
      have hB3 := hB2.trans (hC.mono hz2)
      have hz3 := hB3.size
      have v1 := v1.below hC
      have v2 := v2.below hC
      clear hC hB2 hz2
      go_wp2_with fail
      refine (of_nv 1 _ (Lib.hid (by decide))).mono ?_
      rintro e W4 ⟨A4, k4, c4, rfl, v4, hC⟩
      have hB4 := hB3.trans (hC.mono hz3)
      have hz4 := hB4.size
      have v1 := v1.below hC
      have v2 := v2.below hC
      have v3 := v3.below hC
      clear hC hB3 hz3
      go_wp2_with fail
      refine (rounded_any v3 v4 (Lib.hid (amt_plus (by omega) (by omega))) (Lib.hid big_1)).mono ?_
      rintro e W5 ⟨rfl, hC⟩
      have hB5 := hB4.trans (hC.mono hz4)
      clear hC hB4 hz4
      go_wp2
      go_ret
      exact ⟨by rw [HE.out]; try rfl, hB5⟩
  have bss : (sa == sb) = false := by revert hss; cases sa <;> cases sb <;> simp
  have hl2 : addP way a b = if amt x = amt y then sgn (way == 2) else if amt y < amt x then rnd way sa (amt x - amt y) 1 else rnd way sb (amt y - amt x) 1 := by
    rw [hl]
    by_cases hz : x = 0 ∧ y = 0
    · have hne : a ≠ b := fun e => hss (by rw [← hsa, ← hsb, e])
      rw [if_pos hz, if_neg hne, hz.1, hz.2, if_pos rfl]
    · rw [if_neg hz]
      unfold sumL
      rw [if_neg hss]
  by_cases heq : amt x = amt y
  case pos =>
    have HE : Hid (addP way a b = sgn (way == 2)) := Lib.hid (by rw [hl2, if_pos heq])
    have HD : Hid (cmpV (amt x) (amt y) = 0) := Lib.hid (cmpV_zero.2 heq)
    clear hna hnb hx hy hsa hsb IA IB hxi hyi hl hl2 hss heq
    by_cases hw2 : way = 2
    · subst hw2
      go_enter Try.func26, Try.ntmps26
      have hB0 := Below.refl w.heap.size w
      have hz0 := hB0.size
      go_wp2_with fail
      refine (rnone_at h NA).mono ?_
      rintro e w' ⟨rfl, rfl⟩
      go_wp2_with fail
      refine (rnone_at h' NB).mono ?_
      rintro e w' ⟨rfl, rfl⟩
      go_wp2_with fail
      refine (rabs_at h HX).mono ?_
      rintro e w' ⟨rfl, rfl⟩
      go_wp2_with fail
      refine (rabs_at h' HY).mono ?_
      rintro e w' ⟨rfl, rfl⟩
      go_wp2_with fail
      refine (rabs_at h HX).mono ?_
      rintro e w' ⟨rfl, rfl⟩
      go_wp2_with fail
      refine (amount_nv x _ (by omega)).mono ?_
      rintro e W1 ⟨A1, k1, c1, rfl, v1, hC⟩
      have hB1 := hB0.trans (hC.mono hz0)
      have hz1 := hB1.size
      clear hC hB0 hz0
      go_wp2_with fail
      refine (rabs_at h' HY).mono ?_
      rintro e w' ⟨rfl, rfl⟩
      go_wp2_with fail
      refine (amount_nv y _ (by omega)).mono ?_
      rintro e W2 ⟨A2, k2, c2, rfl, v2, hC⟩
      have hB2 := hB1.trans (hC.mono hz1)
      have hz2 := hB2.size
      have v1 := v1.below hC
      clear hC hB1 hz1
      go_wp2_with fail
      refine (rbelow_at SA).mono ?_
      rintro e w' ⟨rfl, rfl⟩
      go_wp2_with fail
      refine (rbelow_at SB).mono ?_
      rintro e w' ⟨rfl, rfl⟩
      go_wp2_with fail
      refine (compare_nv v1 v2 (amt_big (by omega)) (amt_big (by omega)) HD).mono ?_
      rintro e w' ⟨rfl, nd, rfl⟩
      have hB3 := below_drewN hB2 nd
      have hz3 := hB3.size
      have v1 := v1.below (below_drewN (Below.refl _ _) nd)
      have v2 := v2.below (below_drewN (Below.refl _ _) nd)
      clear hB2 hz2
      go_wp2
      go_ret
      exact ⟨by rw [HE.out]; try rfl, hB3⟩
    · have bw : (way == 2) = false := by simpa using hw2
      rw [bw] at HE
      clear hw2
      go_enter Try.func26, Try.ntmps26
      have hB0 := Below.refl w.heap.size w
      have hz0 := hB0.size
      go_wp2_with fail
      refine (rnone_at h NA).mono ?_
      rintro e w' ⟨rfl, rfl⟩
      go_wp2_with fail
      refine (rnone_at h' NB).mono ?_
      rintro e w' ⟨rfl, rfl⟩
      go_wp2_with fail
      refine (rabs_at h HX).mono ?_
      rintro e w' ⟨rfl, rfl⟩
      go_wp2_with fail
      refine (rabs_at h' HY).mono ?_
      rintro e w' ⟨rfl, rfl⟩
      go_wp2_with fail
      refine (rabs_at h HX).mono ?_
      rintro e w' ⟨rfl, rfl⟩
      go_wp2_with fail
      refine (amount_nv x _ (by omega)).mono ?_
      rintro e W1 ⟨A1, k1, c1, rfl, v1, hC⟩
      have hB1 := hB0.trans (hC.mono hz0)
      have hz1 := hB1.size
      clear hC hB0 hz0
      go_wp2_with fail
      refine (rabs_at h' HY).mono ?_
      rintro e w' ⟨rfl, rfl⟩
      go_wp2_with fail
      refine (amount_nv y _ (by omega)).mono ?_
      rintro e W2 ⟨A2, k2, c2, rfl, v2, hC⟩
      have hB2 := hB1.trans (hC.mono hz1)
      have hz2 := hB2.size
      have v1 := v1.below hC
      clear hC hB1 hz1
      go_wp2_with fail
      refine (rbelow_at SA).mono ?_
      rintro e w' ⟨rfl, rfl⟩
      go_wp2_with fail
      refine (rbelow_at SB).mono ?_
      rintro e w' ⟨rfl, rfl⟩
      go_wp2_with fail
      refine (compare_nv v1 v2 (amt_big (by omega)) (amt_big (by omega)) HD).mono ?_
      rintro e w' ⟨rfl, nd, rfl⟩
      have hB3 := below_drewN hB2 nd
      have hz3 := hB3.size
      have v1 := v1.below (below_drewN (Below.refl _ _) nd)
      have v2 := v2.below (below_drewN (Below.refl _ _) nd)
      clear hB2 hz2
      go_wp2
      go_ret
      exact ⟨by rw [HE.out]; try rfl, hB3⟩
  by_cases hlt : amt y < amt x
  case pos =>
    have HE : Hid (addP way a b = rnd way sa (amt x - amt y) 1) := Lib.hid (by rw [hl2, if_neg heq, if_pos hlt])
    have HD : Hid (cmpV (amt x) (amt y) = 1) := Lib.hid (cmpV_gt hlt)
    have HLT := Lib.hid hlt
    clear hna hnb hx hy hsa hsb IA IB hxi hyi hl hl2 hss heq hlt
    go_enter Try.func26, Try.ntmps26
    have hB0 := Below.refl w.heap.size w
    have hz0 := hB0.size
    go_wp2_with fail
    refine (rnone_at h NA).mono ?_
    rintro e w' ⟨rfl, rfl⟩
    go_wp2_with fail
    refine (rnone_at h' NB).mono ?_
    rintro e w' ⟨rfl, rfl⟩
    go_wp2_with fail
    refine (rabs_at h HX).mono ?_
    rintro e w' ⟨rfl, rfl⟩
    go_wp2_with fail
    refine (rabs_at h' HY).mono ?_
    rintro e w' ⟨rfl, rfl⟩
    go_wp2_with fail
    refine (rabs_at h HX).mono ?_
    rintro e w' ⟨rfl, rfl⟩
    go_wp2_with fail
    refine (amount_nv x _ (by omega)).mono ?_
    rintro e W1 ⟨A1, k1, c1, rfl, v1, hC⟩
    have hB1 := hB0.trans (hC.mono hz0)
    have hz1 := hB1.size
    clear hC hB0 hz0
    go_wp2_with fail
    refine (rabs_at h' HY).mono ?_
    rintro e w' ⟨rfl, rfl⟩
    go_wp2_with fail
    refine (amount_nv y _ (by omega)).mono ?_
    rintro e W2 ⟨A2, k2, c2, rfl, v2, hC⟩
    have hB2 := hB1.trans (hC.mono hz1)
    have hz2 := hB2.size
    have v1 := v1.below hC
    clear hC hB1 hz1
    go_wp2_with fail
    refine (rbelow_at SA).mono ?_
    rintro e w' ⟨rfl, rfl⟩
    go_wp2_with fail
    refine (rbelow_at SB).mono ?_
    rintro e w' ⟨rfl, rfl⟩
    go_wp2_with fail
    refine (compare_nv v1 v2 (amt_big (by omega)) (amt_big (by omega)) HD).mono ?_
    rintro e w' ⟨rfl, nd, rfl⟩
    have hB3 := below_drewN hB2 nd
    have hz3 := hB3.size
    have v1 := v1.below (below_drewN (Below.refl _ _) nd)
    have v2 := v2.below (below_drewN (Below.refl _ _) nd)
    clear hB2 hz2
    go_wp2_with fail
    refine (rbelow_at SA).mono ?_
    rintro e w' ⟨rfl, rfl⟩
    go_wp2_with fail
    refine (minus_nv v1 v2 (amt_big (by omega)) (Nat.le_of_lt HLT.out) (Lib.hid rfl)).mono ?_
    rintro e W4 ⟨A4, k4, c4, rfl, v3, hC⟩
    have hB4 := hB3.trans (hC.mono hz3)
    have hz4 := hB4.size
    have v1 := v1.below hC
    have v2 := v2.below hC
    clear hC hB3 hz3
    go_wp2_with fail
    refine (of_nv 1 _ (Lib.hid (by decide))).mono ?_
    rintro e W5 ⟨A5, k5, c5, rfl, v4, hC⟩
    have hB5 := hB4.trans (hC.mono hz4)
    have hz5 := hB5.size
    have v1 := v1.below hC
    have v2 := v2.below hC
    have v3 := v3.below hC
    clear hC hB4 hz4
    go_wp2_with fail
    refine (rounded_any v3 v4 (Lib.hid (Nat.lt_of_le_of_lt (Nat.sub_le _ _) (amt_ten (by omega)))) (Lib.hid big_1)).mono ?_
    rintro e W6 ⟨rfl, hC⟩
    have hB6 := hB5.trans (hC.mono hz5)
    clear hC hB5 hz5
    go_wp2
    go_ret
    exact ⟨by rw [HE.out]; try rfl, hB6⟩
  have HE : Hid (addP way a b = rnd way sb (amt y - amt x) 1) := Lib.hid (by rw [hl2, if_neg heq, if_neg hlt])
  have HD : Hid (cmpV (amt x) (amt y) = -1) := Lib.hid (cmpV_lt (by omega))
  have HLT : Hid (amt x < amt y) := Lib.hid (by omega)
  clear hna hnb hx hy hsa hsb IA IB hxi hyi hl hl2 hss heq hlt
  go_enter Try.func26, Try.ntmps26
  have hB0 := Below.refl w.heap.size w
  have hz0 := hB0.size
  go_wp2_with fail
  refine (rnone_at h NA).mono ?_
  rintro e w' ⟨rfl, rfl⟩
  go_wp2_with fail
  refine (rnone_at h' NB).mono ?_
  rintro e w' ⟨rfl, rfl⟩
  go_wp2_with fail
  refine (rabs_at h HX).mono ?_
  rintro e w' ⟨rfl, rfl⟩
  go_wp2_with fail
  refine (rabs_at h' HY).mono ?_
  rintro e w' ⟨rfl, rfl⟩
  go_wp2_with fail
  refine (rabs_at h HX).mono ?_
  rintro e w' ⟨rfl, rfl⟩
  go_wp2_with fail
  refine (amount_nv x _ (by omega)).mono ?_
  rintro e W1 ⟨A1, k1, c1, rfl, v1, hC⟩
  have hB1 := hB0.trans (hC.mono hz0)
  have hz1 := hB1.size
  clear hC hB0 hz0
  go_wp2_with fail
  refine (rabs_at h' HY).mono ?_
  rintro e w' ⟨rfl, rfl⟩
  go_wp2_with fail
  refine (amount_nv y _ (by omega)).mono ?_
  rintro e W2 ⟨A2, k2, c2, rfl, v2, hC⟩
  have hB2 := hB1.trans (hC.mono hz1)
  have hz2 := hB2.size
  have v1 := v1.below hC
  clear hC hB1 hz1
  go_wp2_with fail
  refine (rbelow_at SA).mono ?_
  rintro e w' ⟨rfl, rfl⟩
  go_wp2_with fail
  refine (rbelow_at SB).mono ?_
  rintro e w' ⟨rfl, rfl⟩
  go_wp2_with fail
  refine (compare_nv v1 v2 (amt_big (by omega)) (amt_big (by omega)) HD).mono ?_
  rintro e w' ⟨rfl, nd, rfl⟩
  have hB3 := below_drewN hB2 nd
  have hz3 := hB3.size
  have v1 := v1.below (below_drewN (Below.refl _ _) nd)
  have v2 := v2.below (below_drewN (Below.refl _ _) nd)
  clear hB2 hz2
  go_wp2_with fail
  refine (rbelow_at SB).mono ?_
  rintro e w' ⟨rfl, rfl⟩
  go_wp2_with fail
  refine (minus_nv v2 v1 (amt_big (by omega)) (Nat.le_of_lt HLT.out) (Lib.hid rfl)).mono ?_
  rintro e W4 ⟨A4, k4, c4, rfl, v3, hC⟩
  have hB4 := hB3.trans (hC.mono hz3)
  have hz4 := hB4.size
  have v1 := v1.below hC
  have v2 := v2.below hC
  clear hC hB3 hz3
  go_wp2_with fail
  refine (of_nv 1 _ (Lib.hid (by decide))).mono ?_
  rintro e W5 ⟨A5, k5, c5, rfl, v4, hC⟩
  have hB5 := hB4.trans (hC.mono hz4)
  have hz5 := hB5.size
  have v1 := v1.below hC
  have v2 := v2.below hC
  have v3 := v3.below hC
  clear hC hB4 hz4
  go_wp2_with fail
  refine (rounded_any v3 v4 (Lib.hid (Nat.lt_of_le_of_lt (Nat.sub_le _ _) (amt_ten (by omega)))) (Lib.hid big_1)).mono ?_
  rintro e W6 ⟨rfl, hC⟩
  have hB6 := hB5.trans (hC.mono hz5)
  clear hC hB5 hz5
  go_wp2
  go_ret
  exact ⟨by rw [HE.out]; try rfl, hB6⟩
end Go.Proofs.Ytkdlkjoeoahfpaa
