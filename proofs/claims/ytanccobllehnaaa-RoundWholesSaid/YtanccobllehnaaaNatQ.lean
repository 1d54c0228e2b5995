/- The contract of the document's Rounded. -/
import Derived.Test.YtanccobllehnaaaNatZ
import Derived.Deep.CutRange
import Derived.Deep.CutBlock
namespace Go.Proofs.Ytanccobllehnaaa
open Go.RowKit

theorem cmpV_zero {x y : Nat} : cmpV x y = 0 ↔ x = y := by
  unfold cmpV
  split
  · constructor <;> intro h <;> omega
  · split
    · constructor <;> intro h <;> omega
    · constructor <;> intro h <;> omega
theorem cmpV_neg {x y : Nat} : cmpV x y < 0 ↔ x < y := by
  unfold cmpV
  split
  · constructor <;> intro h <;> omega
  · split
    · constructor <;> intro h <;> omega
    · constructor <;> intro h <;> omega
theorem sgn_le (neg : Bool) : sgn neg ≤ 2147483648 := by cases neg <;> decide
theorem amt_two {m : Nat} (h : m < 2139095040) : amt m + amt (m + 1) ≤ two 278 := by
  have h1 := amt_le (m := m) (by omega)
  have h2 := amt_le (m := m + 1) (by omega)
  have h := two_succ 277
  show _ ≤ two (277 + 1)
  omega
theorem amt_sum_big {m : Nat} (h : m < 2139095040) : amt m + amt (m + 1) < two 30000 := by
  have h1 := amt_two h
  have h2 := two_le (show 279 ≤ 30000 by omega)
  have h3 := two_succ 278
  have h4 := two_pos 278
  have h5 : two (278 + 1) = two 279 := rfl
  omega
theorem amt_sum_q {m q : Nat} (h : m < 2139095040) (hq : q < two 10000) : (amt m + amt (m + 1)) * q < two 30000 := by
  have h1 : (amt m + amt (m + 1)) * q ≤ two 278 * two 10000 := Nat.mul_le_mul (amt_two h) (by omega)
  rw [← two_add] at h1
  have h2 := two_le (show 278 + 10000 + 1 ≤ 30000 by omega)
  have h3 := two_pos (278 + 10000)
  rw [two_succ] at h2
  omega
theorem two_p {p : Nat} (h : p < two 10000) : two 1 * p < two 30000 := by
  have h2 := two_le (show 10000 + 1 ≤ 30000 by omega)
  rw [two_succ] at h2
  rw [show two 1 = 2 from rfl]
  omega

set_option maxRecDepth 100000 in
set_option maxHeartbeats 1600000 in
theorem rounded_any {way : Int} {neg : Bool} {A A' : Option Addr} {n n' cap cap' B B' p q : Nat} {w : World} (ha : NV w B A n p) (hb : NV w B' A' n' q) (hp : Hid (p < two 10000)) (hq : Hid (q < two 10000)) :
    Calls Try.prog 53 #[.int .i64 way, .bool neg, .slice A n cap, .slice A' n' cap'] w (BR w (rnd way neg p q)) := by
  have HR : Hid (rnd way neg p q = rndM way neg p q (cut p q)) := Lib.hid rfl
  have hM := (cut_is p q).1
  have HS := sgn_le neg
  go_enter Try.func53, Try.ntmps53
  go_upto_if 18 with (go_at_call 80; refine (least_any ha hb hp hq).mono ?_; rintro e w1 ⟨rfl, hb1⟩)
  generalize cut p q = M at *
  go_cut [10] from 18 to 18 (fun s wx => s = .int .u32 (sgn neg : Int) ∧ wx = w1)
  case first =>
    cases neg
    all_goals
      go_wp2
      go_meet
      case rel => exact ⟨rfl, rfl⟩
  case rest =>
    obtain ⟨rfl, rfl⟩ := hcut
    go_upto_region 5 with fail
    go_cut [11] from 19 to 31 (fun s wx => s = .bool (outw way neg) ∧ wx = wc)
    case first =>
      by_cases w1 : way = 1
      · subst w1
        cases neg
        all_goals
          go_wp2
          go_meet
          case rel => exact ⟨rfl, rfl⟩
      · have e1 : (way == 1) = false := by simpa using w1
        by_cases w2 : way = 2
        · subst w2
          cases neg
          all_goals
            go_wp2
            go_meet
            case rel => exact ⟨rfl, rfl⟩
        · have e2 : (way == 2) = false := by simpa using w2
          go_wp2
          go_meet
          case rel => exact ⟨by simp [outw, e1, e2], rfl⟩
    case rest =>
      obtain ⟨rfl, rfl⟩ := hcut
      go_upto_region 6 with fail
      go_cut [12] from 32 to 44 (fun s wx => s = .bool (inw way neg) ∧ wx = wc)
      case first =>
        by_cases w1 : way = 1
        · subst w1
          cases neg
          all_goals
            go_wp2
            go_meet
            case rel => exact ⟨rfl, rfl⟩
        · have e1 : (way == 1) = false := by simpa using w1
          by_cases w2 : way = 2
          · subst w2
            cases neg
            all_goals
              go_wp2
              go_meet
              case rel => exact ⟨rfl, rfl⟩
          · have e2 : (way == 2) = false := by simpa using w2
            go_wp2
            go_meet
            case rel => exact ⟨by simp [inw, e1, e2], rfl⟩
      case rest =>
        obtain ⟨rfl, rfl⟩ := hcut
        go_upto_region 7 with fail
        obtain ⟨d, hd⟩ : ∃ d, cmpV (amt M * q) p = d := ⟨_, rfl⟩
        have HD := Lib.hid hd
        clear hd
        obtain ⟨S, hS⟩ : ∃ s, sgn neg = s := ⟨_, rfl⟩
        have HSS := Lib.hid hS
        rw [hS] at HS
        simp only [hS]
        clear hS
        obtain ⟨o, ho⟩ : ∃ o, outw way neg = o := ⟨_, rfl⟩
        have HO := Lib.hid ho
        simp only [ho]
        clear ho
        obtain ⟨i, hi⟩ : ∃ i, inw way neg = i := ⟨_, rfl⟩
        have HI := Lib.hid hi
        simp only [hi]
        clear hi
        by_cases hinf : M = 2139095040
        · subst hinf
          have HE : Hid (rnd way neg p q = S + (if i = true then 2139095039 else 2139095040)) := Lib.hid (by rw [HR.out, rndM, if_pos rfl, hugeP, HSS.out, HI.out])
          have hinf : ((2139095040 : Int) == 2139095040) = true := rfl
          go_wp2_with fail
          refine (amount_nv 2139095040 _ (by omega)).mono ?_
          rintro e w2 ⟨A1, k1, c1, rfl, hv1, hb2⟩
          go_wp2_with fail
          have hbq := (hb.below hb1).below hb2
          refine (times_nv hv1 hbq (amt_big hM) (ten_thirty hq.out) (Lib.hid rfl)).mono ?_
          rintro e w3 ⟨A2, k2, c2, rfl, hv2, hb3⟩
          go_wp2_with fail
          have hap := ((ha.below hb1).below hb2).below hb3
          refine (compare_nv hv2 hap (amt_q hM hq.out) (ten_thirty hp.out) HD).mono ?_
          rintro e w4 ⟨rfl, nd, rfl⟩
          have hb4 : Below w.heap.size w (w3.drewN nd) := below_drewN ((hb1.trans (hb2.mono hb1.size)).trans (hb3.mono (by have := hb1.size; have := hb2.size; omega))) nd
          cases i
          all_goals
            go_wp2
            go_ret
            exact ⟨by rw [HE.out]; exact congrArg Ending.returned (congrArg (Value.int .u32) (by simp)), hb4⟩
        · have hinf' : ((M : Int) == 2139095040) = false := by rw [beq_eq_false_iff_ne]; omega
          by_cases hex : amt M * q = p
          · have HE : Hid (rnd way neg p q = S + M) := Lib.hid (by rw [HR.out, rndM, if_neg hinf, if_pos (.inl hex), HSS.out])
            have hd0 : d = 0 := by rw [← HD.out]; exact cmpV_zero.2 hex
            subst hd0
            clear hex
            go_wp2_with fail
            refine (amount_nv M _ (by omega)).mono ?_
            rintro e w2 ⟨A1, k1, c1, rfl, hv1, hb2⟩
            go_wp2_with fail
            have hbq := (hb.below hb1).below hb2
            refine (times_nv hv1 hbq (amt_big hM) (ten_thirty hq.out) (Lib.hid rfl)).mono ?_
            rintro e w3 ⟨A2, k2, c2, rfl, hv2, hb3⟩
            go_wp2_with fail
            have hap := ((ha.below hb1).below hb2).below hb3
            refine (compare_nv hv2 hap (amt_q hM hq.out) (ten_thirty hp.out) HD).mono ?_
            rintro e w4 ⟨rfl, nd, rfl⟩
            have hb4 : Below w.heap.size w (w3.drewN nd) := below_drewN ((hb1.trans (hb2.mono hb1.size)).trans (hb3.mono (by have := hb1.size; have := hb2.size; omega))) nd
            go_wp2
            go_ret
            exact ⟨by rw [HE.out]; exact congrArg Ending.returned (congrArg (Value.int .u32) (by simp)), hb4⟩
          · have hd0 : (d == 0) = false := by rw [beq_eq_false_iff_ne, ← HD.out]; exact fun h => hex (cmpV_zero.1 h)
            have HX := Lib.hid hex
            clear hex
            go_wp2_with fail
            refine (amount_nv M _ (by omega)).mono ?_
            rintro e w2 ⟨A1, k1, c1, rfl, hv1, hb2⟩
            go_wp2_with fail
            have hbq := (hb.below hb1).below hb2
            refine (times_nv hv1 hbq (amt_big hM) (ten_thirty hq.out) (Lib.hid rfl)).mono ?_
            rintro e w3 ⟨A2, k2, c2, rfl, hv2, hb3⟩
            go_wp2_with fail
            have hap := ((ha.below hb1).below hb2).below hb3
            refine (compare_nv hv2 hap (amt_q hM hq.out) (ten_thirty hp.out) HD).mono ?_
            rintro e w4 ⟨rfl, nd, rfl⟩
            have hb4 : Below w.heap.size w (w3.drewN nd) := below_drewN ((hb1.trans (hb2.mono hb1.size)).trans (hb3.mono (by have := hb1.size; have := hb2.size; omega))) nd
            cases i
            · cases o
              · obtain ⟨c, hc⟩ : ∃ c, cmpV ((amt M + amt (M + 1)) * q) (two 1 * p) = c := ⟨_, rfl⟩
                have HC := Lib.hid hc
                clear hc
                have HE : Hid (rnd way neg p q = if c < 0 ∨ (c = 0 ∧ M % 2 = 1) then S + (M + 1) else S + M) := Lib.hid (by
                  have h1 : ((amt M + amt (M + 1)) * q < 2 * p ∨ (amt M + amt (M + 1)) * q = 2 * p ∧ M % 2 = 1) ↔ (c < 0 ∨ (c = 0 ∧ M % 2 = 1)) := by
                    rw [← HC.out, cmpV_neg, cmpV_zero]; exact Iff.rfl
                  rw [HR.out, rndM, if_neg hinf, if_neg (by simp [HX.out, HI.out]), if_neg (by simp [HO.out]), HSS.out]
                  simp only [h1])
                have hM1 : M + 1 < 4294967296 := by omega
                have hMlt : M < 2139095040 := by omega
                obtain ⟨M1, hM1e⟩ : ∃ x, M + 1 = x := ⟨_, rfl⟩
                have hcast : (M : Int) + 1 = (M1 : Int) := by omega
                rw [hM1e] at hM1
                have HM1 := Lib.hid hM1e
                clear hM1e
                go_wp2_with fail
                refine (amount_nv M _ (by omega)).mono ?_
                rintro e w5 ⟨A5, k5, c5, rfl, hv5, hb5⟩
                go_wp2_with fail
                refine (amount_nv M1 _ hM1).mono ?_
                rintro e w6 ⟨A6, k6, c6, rfl, hv6, hb6⟩
                go_wp2_with fail
                refine (plus_nv (hv5.below hb6) hv6 (amt_big hM) (amt_big (by have := HM1.out; omega)) (Lib.hid rfl)).mono ?_
                rintro e w7 ⟨A7, k7, c7, rfl, hv7, hb7⟩
                go_wp2_with fail
                rw [← HM1.out] at hv7
                have hbq8 := ((((hbq.below hb3).below (below_drewN (Below.refl _ _) nd)).below hb5).below hb6).below hb7
                refine (times_nv hv7 hbq8 (amt_sum_big hMlt) (ten_thirty hq.out) (Lib.hid rfl)).mono ?_
                rintro e w8 ⟨A8, k8, c8, rfl, hv8, hb8⟩
                go_wp2_with fail
                have hap9 := ((((hap.below (below_drewN (Below.refl _ _) nd)).below hb5).below hb6).below hb7).below hb8
                refine (twice_nv (k := 1) hap9 (ten_thirty hp.out) (by omega) (Lib.hid rfl)).mono ?_
                rintro e w9 ⟨A9, k9, c9, rfl, hv9, hb9⟩
                go_wp2_with fail
                refine (compare_nv (hv8.below hb9) hv9 (amt_sum_q hMlt hq.out) (two_p hp.out) HC).mono ?_
                rintro e w10 ⟨rfl, ne, rfl⟩
                have hbz : Below w.heap.size w (w9.drewN ne) := by
                  have s1 := hb4.size
                  have s2 := hb5.size
                  have s3 := hb6.size
                  have s4 := hb7.size
                  have s5 := hb8.size
                  exact below_drewN (((((hb4.trans (hb5.mono s1)).trans (hb6.mono (by omega))).trans (hb7.mono (by omega))).trans (hb8.mono (by omega))).trans (hb9.mono (by omega))) ne
                clear hv5 hv6 hv7 hv8 hv9 hbq8 hap9 hb5 hb6 hb7 hb8 hb9 hap hbq hb4 hb2 hb3 hv1 hv2 hb1 ha hb
                by_cases hc1 : c < 0
                · have HE2 : Hid (rnd way neg p q = S + (M + 1)) := Lib.hid (by rw [HE.out, if_pos (.inl hc1)])
                  go_wp2
                  go_ret
                  exact ⟨by rw [HE2.out]; exact congrArg Ending.returned (congrArg (Value.int .u32) (by simp; omega)), hbz⟩
                · by_cases hc2 : c = 0
                  · by_cases hpar : M % 2 = 1
                    · have HE2 : Hid (rnd way neg p q = S + (M + 1)) := Lib.hid (by rw [HE.out, if_pos (.inr ⟨hc2, hpar⟩)])
                      have hpar' : ((M : Int) % 2 == 1) = true := by rw [beq_iff_eq]; omega
                      subst hc2
                      clear hpar
                      go_wp2
                      go_ret
                      exact ⟨by rw [HE2.out]; exact congrArg Ending.returned (congrArg (Value.int .u32) (by simp; omega)), hbz⟩
                    · have HE2 : Hid (rnd way neg p q = S + M) := Lib.hid (by rw [HE.out, if_neg (by omega)])
                      have hpar' : ((M : Int) % 2 == 1) = false := by rw [beq_eq_false_iff_ne]; omega
                      subst hc2
                      clear hpar
                      go_wp2
                      go_ret
                      exact ⟨by rw [HE2.out]; exact congrArg Ending.returned (congrArg (Value.int .u32) (by simp)), hbz⟩
                  · have HE2 : Hid (rnd way neg p q = S + M) := Lib.hid (by rw [HE.out, if_neg (by omega)])
                    have hc2' : (c == 0) = false := by rw [beq_eq_false_iff_ne]; exact hc2
                    go_wp2
                    go_ret
                    exact ⟨by rw [HE2.out]; exact congrArg Ending.returned (congrArg (Value.int .u32) (by simp)), hbz⟩
              · have HE : Hid (rnd way neg p q = S + (M + 1)) := Lib.hid (by rw [HR.out, rndM, if_neg hinf, if_neg (by simp [HX.out, HI.out]), if_pos HO.out, HSS.out])
                go_wp2
                go_ret
                exact ⟨by rw [HE.out]; exact congrArg Ending.returned (congrArg (Value.int .u32) (by simp; omega)), hb4⟩
            · have HE : Hid (rnd way neg p q = S + M) := Lib.hid (by rw [HR.out, rndM, if_neg hinf, if_pos (.inr HI.out), HSS.out])
              go_wp2
              go_ret
              exact ⟨by rw [HE.out]; exact congrArg Ending.returned (congrArg (Value.int .u32) (by simp)), hb4⟩
end Go.Proofs.Ytanccobllehnaaa
