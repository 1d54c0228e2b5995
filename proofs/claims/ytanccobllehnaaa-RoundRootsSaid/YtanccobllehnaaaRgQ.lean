/- The document's SqrtBy and Sqrt. -/
import Derived.Test.YtanccobllehnaaaRdT
import Derived.Test.YtanccobllehnaaaNatQ
import Derived.Test.YtanccobllehnaaaRefH
namespace Go.Proofs.Ytanccobllehnaaa
open Go.RowKit

def QRel (N : Nat) (w : World) (lo hi : Value) (wr : World) : Prop := ∃ l h : Nat, lo = .int .u32 (l : Int) ∧ hi = .int .u32 (h : Int) ∧ l < h ∧ h ≤ 2139095040 ∧ Hid (amt l * amt l ≤ N) ∧ Hid (N < amt h * amt h) ∧ Below w.heap.size w wr
theorem square_nv {A : Option Addr} {n cap B x v : Nat} {w : World} (ha : NV w B A n x) (hx : x < two 30000) (hv : Hid (x * x = v)) :
    Calls Try.prog 60 #[.slice A n cap] w (NR w v) := by
  go_enter Try.func60, Try.ntmps60
  go_wp2_with fail
  refine (times_nv ha ha hx hx hv).mono ?_
  rintro e w' ⟨A1, k1, c1, rfl, hv1, hb⟩
  go_wp2
  go_ret
  exact ⟨A1, k1, c1, rfl, hv1, hb⟩
theorem sq_big {x : Nat} (h : x ≤ two 300) : x * x < two 10000 := by
  have h1 : x * x ≤ two 300 * two 300 := Nat.mul_le_mul h h
  rw [← two_add] at h1
  have h2 := two_le (show 300 + 300 + 1 ≤ 10000 by omega)
  have h3 := two_pos (300 + 300)
  rw [two_succ] at h2
  omega
theorem amt300 {m : Nat} (h : m ≤ 2139095040) : amt m ≤ two 300 := Nat.le_trans (amt_le h) (two_le (by omega))
theorem sum300 {m : Nat} (h : m < 2139095040) : amt m + amt (m + 1) ≤ two 300 := Nat.le_trans (amt_two h) (two_le (by omega))
theorem root_top {x : Nat} (h : x < 2139095040) : two 149 * amt x < amt 2139095040 * amt 2139095040 := by
  have h1 := amt_smono h
  have h2 : two 149 ≤ amt 2139095040 := by
    rw [amt_inf, show 8388608 * two 254 = two 277 from by rw [← two_23, ← two_add]]
    exact two_le (by omega)
  have h3 : two 149 * amt x ≤ amt 2139095040 * amt x := Nat.mul_le_mul_right _ h2
  have h4 : amt 2139095040 * amt x < amt 2139095040 * amt 2139095040 := Nat.mul_lt_mul_of_pos_left h1 (by have := two_pos 149; omega)
  omega
theorem four_big {N : Nat} (h : N < two 10000) : two 2 * N < two 30000 := by
  have h2 := two_le (show 10000 + 1 + 1 ≤ 30000 by omega)
  rw [two_succ, two_succ] at h2
  rw [show two 2 = 4 from rfl]
  omega
theorem four_two (N : Nat) : two 2 * N = 4 * N := rfl
set_option maxRecDepth 100000 in
set_option maxHeartbeats 1600000 in
theorem rsqrt_any (way : Int) (a : Nat) (w : World) (h : Hid (a < 4294967296)) :
    Calls Try.prog 17 #[.int .i64 way, .int .u32 (a : Int)] w (BR w (sqrtP way a)) := by
  obtain ⟨x, hx⟩ : ∃ x, absP a = x := ⟨_, rfl⟩
  obtain ⟨sa, hsa⟩ : ∃ s, decide (2147483648 ≤ a) = s := ⟨_, rfl⟩
  have HX := Lib.hid hx
  have SA := Lib.hid hsa
  cases hna : nanP a
  case true =>
    have NA := Lib.hid hna
    have HE : Hid (sqrtP way a = 2143289344) := Lib.hid (by unfold sqrtP; rw [if_pos hna])
    clear hna hx hsa
    go_enter Try.func17, Try.ntmps17
    have hB0 := Below.refl w.heap.size w
    have hz0 := hB0.size
    go_wp2_with fail
    refine (rnone_at h NA).mono ?_
    rintro e' w' ⟨rfl, rfl⟩
    go_wp2
    go_ret
    exact ⟨by rw [HE.out]; try rfl, hB0⟩
  have NA := Lib.hid hna
  have hno : ¬ nanP a = true := by rw [hna]; decide
  by_cases hx0 : x = 0
  case pos =>
    have HE : Hid (sqrtP way a = a) := Lib.hid (by unfold sqrtP; rw [if_neg hno, if_pos (hx.trans hx0)])
    have b0 : ((x : Int) == 0) = true := int_eq (y := 0) hx0
    clear hna hno hx hsa hx0
    go_enter Try.func17, Try.ntmps17
    have hB0 := Below.refl w.heap.size w
    have hz0 := hB0.size
    go_wp2_with fail
    refine (rnone_at h NA).mono ?_
    rintro e' w' ⟨rfl, rfl⟩
    go_wp2_with fail
    refine (rabs_at h HX).mono ?_
    rintro e' w' ⟨rfl, rfl⟩
    go_wp2
    go_ret
    exact ⟨by rw [HE.out]; try rfl, hB0⟩
  have b0 : ((x : Int) == 0) = false := int_ne (y := 0) hx0
  have hnx : ¬ absP a = 0 := by rw [hx]; exact hx0
  by_cases hai : a = 2139095040
  case pos =>
    have HE : Hid (sqrtP way a = a) := Lib.hid (by
      unfold sqrtP
      rw [if_neg hno, if_neg hnx, if_neg (by omega), if_pos]
      rw [hai]; rfl)
    have bi : ((a : Int) == 2139095040) = true := int_eq hai
    clear hna hno hx hsa hx0 hnx hai
    go_enter Try.func17, Try.ntmps17
    have hB0 := Below.refl w.heap.size w
    have hz0 := hB0.size
    go_wp2_with fail
    refine (rnone_at h NA).mono ?_
    rintro e' w' ⟨rfl, rfl⟩
    go_wp2_with fail
    refine (rabs_at h HX).mono ?_
    rintro e' w' ⟨rfl, rfl⟩
    go_wp2
    go_ret
    exact ⟨by rw [HE.out]; try rfl, hB0⟩
  have bi : ((a : Int) == 2139095040) = false := int_ne hai
  by_cases hs : 2147483648 ≤ a
  case pos =>
    have HE : Hid (sqrtP way a = 2143289344) := Lib.hid (by unfold sqrtP; rw [if_neg hno, if_neg hnx, if_pos hs])
    obtain rfl : sa = true := by rw [← hsa]; exact decide_eq_true hs
    clear hna hno hx hsa hx0 hnx hai hs
    go_enter Try.func17, Try.ntmps17
    have hB0 := Below.refl w.heap.size w
    have hz0 := hB0.size
    go_wp2_with fail
    refine (rnone_at h NA).mono ?_
    rintro e' w' ⟨rfl, rfl⟩
    go_wp2_with fail
    refine (rabs_at h HX).mono ?_
    rintro e' w' ⟨rfl, rfl⟩
    go_wp2_with fail
    refine (rbelow_at SA).mono ?_
    rintro e' w' ⟨rfl, rfl⟩
    go_wp2
    go_ret
    exact ⟨by rw [HE.out]; try rfl, hB0⟩
  obtain rfl : sa = false := by rw [← hsa]; exact decide_eq_false hs
  have IA : infP a = false := by
    cases h : infP a
    · rfl
    · have := inf_abs.1 h
      unfold absP at this
      omega
  have lx := fin_abs hna IA
  have hax : a = x := by rw [← hx]; unfold absP; omega
  rw [hx] at lx
  obtain ⟨N, hN⟩ : ∃ n, two 149 * amt x = n := ⟨_, rfl⟩
  have HN := Lib.hid hN
  have HTOP : Hid (N < amt 2139095040 * amt 2139095040) := Lib.hid (by rw [← hN]; exact root_top lx)
  have HNB : Hid (N < two 10000) := Lib.hid (by rw [← hN]; exact amt_149 (by omega))
  have HE0 : Hid (∀ m, IsRt N m → sqrtP way a = rootM way N m) := Lib.hid fun m hm => by
    unfold sqrtP
    rw [if_neg hno, if_neg hnx, if_neg hs, if_neg (by rw [IA]; decide)]
    have := sqrt_law (way := way) hnx (by rw [hx]; exact lx) (by rw [hx, hN]; exact hm)
    rw [hx, hN] at this
    exact this
  have HAX : Hid (amt a = amt x) := Lib.hid (by rw [hax])
  have ha31 : a < 2147483648 := by omega
  clear hna hno hx hsa hx0 hnx hai hs IA hax hN
  go_enter Try.func17, Try.ntmps17
  have hB0 := Below.refl w.heap.size w
  have hz0 := hB0.size
  go_wp2_with fail
  refine (rnone_at h NA).mono ?_
  rintro e' w' ⟨rfl, hw⟩
  subst w'
  go_wp2_with fail
  refine (rabs_at h HX).mono ?_
  rintro e' w' ⟨rfl, hw⟩
  subst w'
  go_wp2_with fail
  refine (rbelow_at SA).mono ?_
  rintro e' w' ⟨rfl, hw⟩
  subst w'
  go_wp2_with fail
  refine (amount_nv a _ (by omega)).mono ?_
  rintro e' W1 ⟨A1, k1, c1, rfl, v1, hC⟩
  have hB1 := hB0.trans (hC.mono hz0)
  have hz1 := hB1.size
  clear hC hB0 hz0
  rw [HAX.out] at v1
  go_wp2_with fail
  refine (twice_nv (k := 149) v1 (ten_thirty (amt_ten (by omega))) (by omega) HN).mono ?_
  rintro e' W2 ⟨A2, k2, c2, rfl, v2, hC⟩
  have hB2 := hB1.trans (hC.mono hz1)
  have hz2 := hB2.size
  have v1 := v1.below hC
  clear hC hB1 hz1
  go_wp2
  go_loopw [6, 7] (fun lo hi wr => QRel N W2 lo hi wr) (fun lo hi _ => (intOf hi - intOf lo).toNat)
  case atStart => exact ⟨0, 2139095040, rfl, rfl, by omega, by omega, Lib.hid (by rw [amt_zero]; omega), HTOP, Below.refl _ _⟩
  case round =>
    obtain ⟨l, hh, rfl, rfl, hlh, hhi, HL, HH, hbel⟩ := hrel
    have hsz := hbel.size
    have v2 := v2.below hbel
    have hbw : Below w.heap.size w wr := hB2.trans (hbel.mono hz2)
    by_cases h1 : hh = l + 1
    · subst h1
      have HIS : Hid (IsRt N l) := Lib.hid ⟨by omega, HL.out, HH.out⟩
      have HE1 : Hid (sqrtP way a = rootM way N l) := Lib.hid (HE0.out l HIS.out)
      have hc : ¬ (1 : Int) < ((l + 1 : Nat) : Int) - (l : Int) := by omega
      clear HE0 HIS HL HH hbel hsz hB2 hz2
      obtain ⟨c, hcc⟩ : ∃ c, cmpV (amt l * amt l) N = c := ⟨_, rfl⟩
      have HC := Lib.hid hcc
      clear hcc
      have hl1 : l < 2139095040 := by omega
      clear hlh hhi
      go_wp2_with fail
      refine (amount_nv l _ (by omega)).mono ?_
      rintro e' W3 ⟨A3, k3, c3, rfl, v3, hC⟩
      have v2 := v2.below hC
      have hbw := hbw.trans (hC.mono hbw.size)
      clear hC
      go_wp2_with fail
      refine (square_nv v3 (amt_big (by omega)) (Lib.hid rfl)).mono ?_
      rintro e' W4 ⟨A4, k4, c4, rfl, v4, hC⟩
      have v2 := v2.below hC
      have hbw := hbw.trans (hC.mono hbw.size)
      clear hC v3
      go_wp2_with fail
      refine (compare_nv v4 v2 (ten_thirty (sq_big (amt300 (by omega)))) (ten_thirty HNB.out) HC).mono ?_
      rintro e' w' ⟨rfl, nd, rfl⟩
      have hbw := below_drewN hbw nd
      have v2 := v2.below (below_drewN (Below.refl _ _) nd)
      clear v4
      by_cases hc0 : c = 0
      · subst hc0
        have HE : Hid (sqrtP way a = l) := Lib.hid (by rw [HE1.out, rootM, if_pos (.inl (cmpV_zero.1 HC.out))])
        go_wp2
        go_ret
        exact ⟨by rw [HE.out]; try rfl, hbw⟩
      have bc : (c == 0) = false := by rw [beq_eq_false_iff_ne]; exact hc0
      have HNX : Hid (¬ amt l * amt l = N) := Lib.hid fun e => hc0 (by rw [← HC.out]; exact cmpV_zero.2 e)
      clear hc0
      by_cases w2 : way = 2
      · have HE : Hid (sqrtP way a = l) := Lib.hid (by rw [HE1.out, rootM, if_pos (.inr w2)])
        subst w2
        go_wp2
        go_ret
        exact ⟨by rw [HE.out]; try rfl, hbw⟩
      have bw2 : (way == 2) = false := by rw [beq_eq_false_iff_ne]; exact w2
      by_cases w1 : way = 1
      · have HE : Hid (sqrtP way a = l + 1) := Lib.hid (by rw [HE1.out, rootM, if_neg (by simp [HNX.out, w2]), if_pos w1])
        subst w1
        go_wp2
        go_ret
        exact ⟨by rw [HE.out]; exact congrArg Ending.returned (congrArg (Value.int .u32) (by simp)), hbw⟩
      have bw1 : (way == 1) = false := by rw [beq_eq_false_iff_ne]; exact w1
      obtain ⟨d, hdd⟩ : ∃ d, cmpV ((amt l + amt (l + 1)) * (amt l + amt (l + 1))) (4 * N) = d := ⟨_, rfl⟩
      have HE2 : Hid (sqrtP way a = if d < 0 ∨ (d = 0 ∧ l % 2 = 1) then l + 1 else l) := Lib.hid (by
        rw [HE1.out, rootM, if_neg (by simp [HNX.out, w2]), if_neg w1]
        have h1 : ((amt l + amt (l + 1)) * (amt l + amt (l + 1)) < 4 * N ∨ (amt l + amt (l + 1)) * (amt l + amt (l + 1)) = 4 * N ∧ l % 2 = 1) ↔ (d < 0 ∨ (d = 0 ∧ l % 2 = 1)) := by
          rw [← hdd, cmpV_neg, cmpV_zero]
        simp only [h1])
      have HD := Lib.hid hdd
      clear hdd w1 w2 HE1 HNX
      obtain ⟨M1, hM1e⟩ : ∃ x, l + 1 = x := ⟨_, rfl⟩
      have hcast : (l : Int) + 1 = (M1 : Int) := by omega
      have hM1 : M1 < 4294967296 := by omega
      have HM1 := Lib.hid hM1e
      clear hM1e
      go_wp2_with fail
      refine (amount_nv l _ (by omega)).mono ?_
      rintro e' W5 ⟨A5, k5, c5, rfl, v5, hC⟩
      have v2 := v2.below hC
      have hbw := hbw.trans (hC.mono hbw.size)
      clear hC
      go_wp2_with fail
      refine (amount_nv M1 _ hM1).mono ?_
      rintro e' W6 ⟨A6, k6, c6, rfl, v6, hC⟩
      have v2 := v2.below hC
      have v5 := v5.below hC
      have hbw := hbw.trans (hC.mono hbw.size)
      clear hC
      rw [← HM1.out] at v6
      go_wp2_with fail
      refine (plus_nv v5 v6 (amt_big (by omega)) (amt_big (by omega)) (Lib.hid rfl)).mono ?_
      rintro e' W7 ⟨A7, k7, c7, rfl, v7, hC⟩
      have v2 := v2.below hC
      have hbw := hbw.trans (hC.mono hbw.size)
      clear hC
      go_wp2_with fail
      refine (square_nv v7 (amt_sum_big hl1) (Lib.hid rfl)).mono ?_
      rintro e' W8 ⟨A8, k8, c8, rfl, v8, hC⟩
      have v2 := v2.below hC
      have hbw := hbw.trans (hC.mono hbw.size)
      clear hC
      go_wp2_with fail
      refine (twice_nv (k := 2) v2 (ten_thirty HNB.out) (by omega) (Lib.hid (four_two N))).mono ?_
      rintro e' W9 ⟨A9, k9, c9, rfl, v9, hC⟩
      have v8 := v8.below hC
      have hbw := hbw.trans (hC.mono hbw.size)
      clear hC
      go_wp2_with fail
      refine (compare_nv v8 v9 (ten_thirty (sq_big (sum300 hl1))) (by rw [← four_two]; exact four_big HNB.out) HD).mono ?_
      rintro e' w' ⟨rfl, ne, rfl⟩
      have hbw := below_drewN hbw ne
      clear v2 v5 v6 v7 v8 v9
      by_cases hd1 : d < 0
      · have HE : Hid (sqrtP way a = l + 1) := Lib.hid (by rw [HE2.out, if_pos (.inl hd1)])
        go_wp2
        go_ret
        exact ⟨by rw [HE.out]; exact congrArg Ending.returned (congrArg (Value.int .u32) (by rw [← HM1.out] <;> rfl)), hbw⟩
      · by_cases hd2 : d = 0
        · by_cases hpar : l % 2 = 1
          · have HE : Hid (sqrtP way a = l + 1) := Lib.hid (by rw [HE2.out, if_pos (.inr ⟨hd2, hpar⟩)])
            have hpar' : ((l : Int) % 2 == 1) = true := by rw [beq_iff_eq]; omega
            subst hd2
            clear hpar
            go_wp2
            go_ret
            exact ⟨by rw [HE.out]; exact congrArg Ending.returned (congrArg (Value.int .u32) (by rw [← HM1.out] <;> rfl)), hbw⟩
          · have HE : Hid (sqrtP way a = l) := Lib.hid (by rw [HE2.out, if_neg (by omega)])
            have hpar' : ((l : Int) % 2 == 1) = false := by rw [beq_eq_false_iff_ne]; omega
            subst hd2
            clear hpar
            go_wp2
            go_ret
            exact ⟨by rw [HE.out]; try rfl, hbw⟩
        · have HE : Hid (sqrtP way a = l) := Lib.hid (by rw [HE2.out, if_neg (by omega)])
          have hd2' : (d == 0) = false := by rw [beq_eq_false_iff_ne]; exact hd2
          go_wp2
          go_ret
          exact ⟨by rw [HE.out]; try rfl, hbw⟩
    · obtain ⟨m, hm⟩ : ∃ m, l + (hh - l) / 2 = m := ⟨_, rfl⟩
      have hm1 : l < m := by omega
      have hm2 : m < hh := by omega
      have hcast : (l : Int) + ((hh : Int) - (l : Int)) / 2 = (m : Int) := by omega
      have hc : (1 : Int) < (hh : Int) - (l : Int) := by omega
      clear hm
      obtain ⟨d, hd⟩ : ∃ d, cmpV (amt m * amt m) N = d := ⟨_, rfl⟩
      have HD := Lib.hid hd
      clear hd
      by_cases hle : amt m * amt m ≤ N
      · have HLE := Lib.hid hle
        have hd0 : d ≤ 0 := by
          rw [← HD.out]
          unfold cmpV
          split
          · omega
          · split <;> omega
        clear hle
        go_wp2_with fail
        refine (amount_nv m _ (by omega)).mono ?_
        rintro e' w1 ⟨A1, k1, c1, rfl, v3, hC⟩
        have v2 := v2.below hC
        have hbel := hbel.trans (hC.mono hbel.size)
        clear hC
        go_wp2_with fail
        refine (square_nv v3 (amt_big (by omega)) (Lib.hid rfl)).mono ?_
        rintro e' w2 ⟨A2, k2, c2, rfl, v4, hC⟩
        have v2 := v2.below hC
        have hbel := hbel.trans (hC.mono hbel.size)
        clear hC
        go_wp2_with fail
        refine (compare_nv v4 v2 (ten_thirty (sq_big (amt300 (by omega)))) (ten_thirty HNB.out) HD).mono ?_
        rintro e' w3 ⟨rfl, nd, rfl⟩
        have hbel := below_drewN hbel nd
        go_wp2
        go_roundw
        case rel => exact ⟨m, hh, rfl, rfl, hm2, hhi, HLE, HH, hbel⟩
        case measure => simp [intOf]; omega
      · have HLE := Lib.hid hle
        have hd0 : ¬ d ≤ 0 := by rw [← HD.out, cmpV_gt (by omega)]; decide
        clear hle
        go_wp2_with fail
        refine (amount_nv m _ (by omega)).mono ?_
        rintro e' w1 ⟨A1, k1, c1, rfl, v3, hC⟩
        have v2 := v2.below hC
        have hbel := hbel.trans (hC.mono hbel.size)
        clear hC
        go_wp2_with fail
        refine (square_nv v3 (amt_big (by omega)) (Lib.hid rfl)).mono ?_
        rintro e' w2 ⟨A2, k2, c2, rfl, v4, hC⟩
        have v2 := v2.below hC
        have hbel := hbel.trans (hC.mono hbel.size)
        clear hC
        go_wp2_with fail
        refine (compare_nv v4 v2 (ten_thirty (sq_big (amt300 (by omega)))) (ten_thirty HNB.out) HD).mono ?_
        rintro e' w3 ⟨rfl, nd, rfl⟩
        have hbel := below_drewN hbel nd
        go_wp2
        go_roundw
        case rel => exact ⟨l, m, rfl, rfl, hm1, by omega, HL, Lib.hid (by have := HLE.out; omega), hbel⟩
        case measure => simp [intOf]; omega
theorem rsqrt0_any (a : Nat) (w : World) (h : Hid (a < 4294967296)) :
    Calls Try.prog 19 #[.int .u32 (a : Int)] w (BR w (sqrtP 0 a)) := by
  go_enter Try.func19, Try.ntmps19
  go_wp2_with fail
  refine (rsqrt_any 0 a _ h).mono ?_
  rintro e w' ⟨rfl, hb⟩
  go_wp2
  go_ret
  exact ⟨rfl, hb⟩
end Go.Proofs.Ytanccobllehnaaa
