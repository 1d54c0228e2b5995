/- The document's whole and Pow. -/
import Derived.Test.YtegeadkilolngaaGreatElG
namespace Go.Proofs.YtegeadkilolngaaGreat
open Go.RowKit

theorem inf_of_abs {b ab : Nat} (e : absP b = ab) : infP b = ((ab : Int) == 2139095040) := by
  have e' : b % 2147483648 = ab := e
  unfold infP
  rw [e', Bool.eq_iff_iff, decide_eq_true_iff, beq_iff_eq]
  omega
theorem fin_of_abs {b ab : Nat} (e : absP b = ab) (h : nanP b = false) : decide ((ab : Int) < 2139095040) = !infP b := by
  have e' : b % 2147483648 = ab := e
  unfold nanP at h
  unfold infP
  rw [e'] at h ⊢
  have h' := of_decide_eq_false h
  by_cases k : ab = 2139095040
  · rw [decide_eq_true k, decide_eq_false (by omega)]; rfl
  · rw [decide_eq_false k, decide_eq_true (by omega)]; rfl
theorem whole3_at {b : Nat} {r : Bool} {w : World} (L_b : Hid (b < 4294967296)) (hn : Hid (nanP b = false)) (hr : Hid (wholeB b = r)) : Calls Tryz.prog 54 #[.int .u32 (b : Int)] w fun e w' => e = .returned (.bool r) ∧ Below w.heap.size w w' := by
  obtain ⟨ab, e_ab⟩ : ∃ v, absP b = v := ⟨_, rfl⟩
  have L_ab : Hid (ab < 4294967296) := Lib.hid (by rw [← e_ab]; exact lt_abs b)
  have R_ab := Lib.hid e_ab
  obtain ⟨k, e_k⟩ : ∃ v, wholeP 2 b = v := ⟨_, rfl⟩
  have L_k : Hid (k < 4294967296) := Lib.hid (by rw [← e_k]; exact lt_whole 2 L_b.out)
  have R_k := Lib.hid e_k
  have hfn := fin_of_abs e_ab hn.out
  cases c1 : infP b
  · have HR : Hid (equalP k b = r) := Lib.hid (by rw [← hr.out]; unfold wholeB; rw [c1, e_k]; rfl)
    rw [c1] at hfn
    have hfn2 : decide ((ab : Int) < 2139095040) = true := hfn
    clear c1 hfn e_ab e_k
    go_enter Tryz.func54, Tryz.ntmps54
    have hB0 := Below.refl w.heap.size w
    have hz0 := hB0.size
    go_wp2_with fail
    refine (abs3_at L_b R_ab).mono ?_
    rintro e' w' ⟨rfl, hw⟩
    subst w'
    go_wp2_with fail
    refine (even3_at L_b R_k).mono ?_
    rintro e' W1 ⟨rfl, hC⟩
    have hB1 := hB0.trans (hC.mono hz0)
    have hz1 := hB1.size
    clear hC hB0 hz0
    go_wp2_with fail
    refine (equal3_at L_k L_b HR).mono ?_
    rintro e' w' ⟨rfl, hw⟩
    subst w'
    go_wp2
    go_ret
    exact ⟨rfl, hB1⟩
  · have HR : Hid (r = false) := Lib.hid (by rw [← hr.out]; unfold wholeB; rw [c1]; rfl)
    rw [c1] at hfn
    have hfn2 : decide ((ab : Int) < 2139095040) = false := hfn
    clear c1 hfn e_ab e_k
    go_enter Tryz.func54, Tryz.ntmps54
    have hB0 := Below.refl w.heap.size w
    have hz0 := hB0.size
    go_wp2_with fail
    refine (abs3_at L_b R_ab).mono ?_
    rintro e' w' ⟨rfl, hw⟩
    subst w'
    go_wp2
    go_ret
    exact ⟨by rw [HR.out]; try rfl, hB0⟩
set_option maxRecDepth 100000 in
set_option maxHeartbeats 3200000 in
theorem pow3_any (a b : Nat) (w : World) (L_a : Hid (a < 4294967296)) (L_b : Hid (b < 4294967296)) : Calls Tryz.prog 12 #[.int .u32 (a : Int), .int .u32 (b : Int)] w (BR w (powP a b)) := by
  obtain ⟨ab, e_ab⟩ : ∃ v, absP b = v := ⟨_, rfl⟩
  have L_ab : Hid (ab < 4294967296) := Lib.hid (by rw [← e_ab]; exact lt_abs b)
  have R_ab := Lib.hid e_ab
  obtain ⟨aa, e_aa⟩ : ∃ v, absP a = v := ⟨_, rfl⟩
  have L_aa : Hid (aa < 4294967296) := Lib.hid (by rw [← e_aa]; exact lt_abs a)
  have R_aa := Lib.hid e_aa
  obtain ⟨lg, e_lg⟩ : ∃ v, logP aa = v := ⟨_, rfl⟩
  have L_lg : Hid (lg < 4294967296) := Lib.hid (by rw [← e_lg]; exact lt_log aa)
  have R_lg := Lib.hid e_lg
  obtain ⟨bl, e_bl⟩ : ∃ v, mulP 0 b lg = v := ⟨_, rfl⟩
  have L_bl : Hid (bl < 4294967296) := Lib.hid (by rw [← e_bl]; exact (okR.mul 0 b lg).1)
  have R_bl := Lib.hid e_bl
  obtain ⟨y, e_y⟩ : ∃ v, expP bl = v := ⟨_, rfl⟩
  have L_y : Hid (y < 4294967296) := Lib.hid (by rw [← e_y]; exact lt_exp bl)
  have R_y := Lib.hid e_y
  obtain ⟨ny, e_ny⟩ : ∃ v, negP y = v := ⟨_, rfl⟩
  have L_ny : Hid (ny < 4294967296) := Lib.hid (by rw [← e_ny]; exact neg_lt L_y.out)
  have R_ny := Lib.hid e_ny
  have hY : powY a b = y := by unfold powY; rw [e_aa, e_lg, e_bl, e_y]
  by_cases h0 : ab = 0
  · have HE : Hid (powP a b = 1065353216) := Lib.hid (by unfold powP; rw [if_pos (.inl (e_ab.trans h0))])
    have b0 : ((ab : Int) == 0) = true := int_eq (y := 0) h0
    clear h0 hY
    go_enter Tryz.func12, Tryz.ntmps12
    have hB0 := Below.refl w.heap.size w
    have hz0 := hB0.size
    go_wp2_with fail
    refine (abs3_at L_b R_ab).mono ?_
    rintro e' w' ⟨rfl, hw⟩
    subst w'
    go_wp2
    go_ret
    exact ⟨by rw [HE.out]; try rfl, hB0⟩
  have b0 : ((ab : Int) == 0) = false := int_ne (y := 0) h0
  by_cases h1 : a = 1065353216
  · have HE : Hid (powP a b = 1065353216) := Lib.hid (by unfold powP; rw [if_pos (.inr h1)])
    have b1 : ((a : Int) == 1065353216) = true := int_eq h1
    clear h0 h1 hY
    go_enter Tryz.func12, Tryz.ntmps12
    have hB0 := Below.refl w.heap.size w
    have hz0 := hB0.size
    go_wp2_with fail
    refine (abs3_at L_b R_ab).mono ?_
    rintro e' w' ⟨rfl, hw⟩
    subst w'
    go_wp2
    go_ret
    exact ⟨by rw [HE.out]; try rfl, hB0⟩
  have b1 : ((a : Int) == 1065353216) = false := int_ne h1
  have n1 : ¬ (absP b = 0 ∨ a = 1065353216) := by rw [e_ab]; simp [h0, h1]
  cases c1 : nanP a
  case true =>
    have C1 := Lib.hid c1
    have HE : Hid (powP a b = 2143289344) := Lib.hid (by unfold powP; rw [if_neg n1, if_pos (.inl c1)])
    clear h0 h1 n1 c1 hY
    go_enter Tryz.func12, Tryz.ntmps12
    have hB0 := Below.refl w.heap.size w
    have hz0 := hB0.size
    go_wp2_with fail
    refine (abs3_at L_b R_ab).mono ?_
    rintro e' w' ⟨rfl, hw⟩
    subst w'
    go_wp2_with fail
    refine (rnone_at L_a C1).mono ?_
    rintro e' w' ⟨rfl, hw⟩
    subst w'
    go_wp2
    go_ret
    exact ⟨by rw [HE.out]; try rfl, hB0⟩
  have C1 := Lib.hid c1
  cases c2 : nanP b
  case true =>
    have C2 := Lib.hid c2
    have HE : Hid (powP a b = 2143289344) := Lib.hid (by unfold powP; rw [if_neg n1, if_pos (.inr c2)])
    clear h0 h1 n1 c1 c2 hY
    go_enter Tryz.func12, Tryz.ntmps12
    have hB0 := Below.refl w.heap.size w
    have hz0 := hB0.size
    go_wp2_with fail
    refine (abs3_at L_b R_ab).mono ?_
    rintro e' w' ⟨rfl, hw⟩
    subst w'
    go_wp2_with fail
    refine (rnone_at L_a C1).mono ?_
    rintro e' w' ⟨rfl, hw⟩
    subst w'
    go_wp2_with fail
    refine (rnone_at L_b C2).mono ?_
    rintro e' w' ⟨rfl, hw⟩
    subst w'
    go_wp2
    go_ret
    exact ⟨by rw [HE.out]; try rfl, hB0⟩
  have C2 := Lib.hid c2
  have n2 : ¬ (nanP a = true ∨ nanP b = true) := by rw [c1, c2]; simp
  have hP : powP a b = if a = 3212836864 ∧ infP b = true then 1065353216 else if lessP a 0 = true ∧ infP b = false ∧ wholeB b = false then 2143289344
      else if 2147483648 ≤ a ∧ wholeB b = true ∧ lessP ab 1266679808 = true ∧ toIntP b % 2 = 1 then ny else y := by
    unfold powP
    rw [if_neg n1, if_neg n2, hY, e_ab, e_ny]
  have hbi := inf_of_abs e_ab
  have hbf := fin_of_abs e_ab c2
  obtain ⟨n, hn⟩ : ∃ v, toIntP b = v := ⟨_, rfl⟩
  have HN := Lib.hid hn
  have hodd : (n.tmod 2 != 0) = decide (n % 2 = 1) := by
    rw [Bool.eq_iff_iff, decide_eq_true_iff, bne_iff_ne]
    have h : n.tmod 2 = 0 ↔ n % 2 = 0 := ⟨fun h => Int.emod_eq_zero_of_dvd (Int.dvd_of_tmod_eq_zero h), fun h => Int.tmod_eq_zero_of_dvd (Int.dvd_of_emod_eq_zero h)⟩
    rw [ne_eq, h]
    omega
  obtain ⟨sg, hsg⟩ : ∃ v, decide ((2147483648 : Int) ≤ (a : Int)) = v := ⟨_, rfl⟩
  have HSG : Hid (2147483648 ≤ a ↔ sg = true) := Lib.hid (by rw [← hsg, decide_eq_true_iff]; omega)
  obtain ⟨ib, hib⟩ : ∃ v, infP b = v := ⟨_, rfl⟩
  rw [hib] at hbi hbf
  have hbi' := hbi.symm
  obtain ⟨l, hl⟩ : ∃ v, lessP a 0 = v := ⟨_, rfl⟩
  have LL := Lib.hid hl
  obtain ⟨wb, hwb⟩ : ∃ v, wholeB b = v := ⟨_, rfl⟩
  have WB := Lib.hid hwb
  obtain ⟨lb, hlb⟩ : ∃ v, lessP ab 1266679808 = v := ⟨_, rfl⟩
  have LB := Lib.hid hlb
  rw [hib, hl, hwb, hlb, hn] at hP
  have HP := Lib.hid hP
  clear hP h0 h1 n1 c1 c2 n2 hY e_ab hbi e_aa e_lg e_bl e_y e_ny hn hib hl hwb hlb
  by_cases ha : a = 3212836864
  · have ba : ((a : Int) == 3212836864) = true := int_eq ha
    have HA := Lib.hid ha
    clear ha
    cases ib
    · have hbf2 : decide ((ab : Int) < 2139095040) = true := hbf
      clear hbf
      cases l
      · cases sg
        case false =>
          cases wb
          case false =>
            have HE : Hid (powP a b = y) := Lib.hid (by rw [HP.out, if_neg (fun h => by cases h.2), if_neg (fun h => by cases h.1), if_neg (by rw [HSG.out]; simp)])
            go_enter Tryz.func12, Tryz.ntmps12
            have hB0 := Below.refl w.heap.size w
            have hz0 := hB0.size
            go_wp2_with fail
            refine (abs3_at L_b R_ab).mono ?_
            rintro e' w' ⟨rfl, hw⟩
            subst w'
            go_wp2_with fail
            refine (rnone_at L_a C1).mono ?_
            rintro e' w' ⟨rfl, hw⟩
            subst w'
            go_wp2_with fail
            refine (rnone_at L_b C2).mono ?_
            rintro e' w' ⟨rfl, hw⟩
            subst w'
            go_wp2_with fail
            refine (abs3_at L_b R_ab).mono ?_
            rintro e' w' ⟨rfl, hw⟩
            subst w'
            go_wp2_with fail
            refine (less3_at L_a (Lib.hid (by decide)) LL).mono ?_
            rintro e' w' ⟨rfl, hw⟩
            subst w'
            go_wp2_with fail
            refine (abs3_at L_a R_aa).mono ?_
            rintro e' w' ⟨rfl, hw⟩
            subst w'
            go_wp2_with fail
            refine (log3_at L_aa R_lg).mono ?_
            rintro e' W1 ⟨rfl, hC⟩
            have hB1 := hB0.trans (hC.mono hz0)
            have hz1 := hB1.size
            clear hC hB0 hz0
            go_wp2_with fail
            refine (mul3_at L_b L_lg R_bl).mono ?_
            rintro e' W2 ⟨rfl, hC⟩
            have hB2 := hB1.trans (hC.mono hz1)
            have hz2 := hB2.size
            clear hC hB1 hz1
            go_wp2_with fail
            refine (exp3_at L_bl R_y).mono ?_
            rintro e' W3 ⟨rfl, hC⟩
            have hB3 := hB2.trans (hC.mono hz2)
            have hz3 := hB3.size
            clear hC hB2 hz2
            go_wp2_with fail
            refine (whole3_at L_b C2 WB).mono ?_
            rintro e' W4 ⟨rfl, hC⟩
            have hB4 := hB3.trans (hC.mono hz3)
            have hz4 := hB4.size
            clear hC hB3 hz3
            go_wp2
            go_ret
            exact ⟨by rw [HE.out]; try rfl, hB4⟩
          cases lb
          case false =>
            have HE : Hid (powP a b = y) := Lib.hid (by rw [HP.out, if_neg (fun h => by cases h.2), if_neg (fun h => by cases h.1), if_neg (by rw [HSG.out]; simp)])
            go_enter Tryz.func12, Tryz.ntmps12
            have hB0 := Below.refl w.heap.size w
            have hz0 := hB0.size
            go_wp2_with fail
            refine (abs3_at L_b R_ab).mono ?_
            rintro e' w' ⟨rfl, hw⟩
            subst w'
            go_wp2_with fail
            refine (rnone_at L_a C1).mono ?_
            rintro e' w' ⟨rfl, hw⟩
            subst w'
            go_wp2_with fail
            refine (rnone_at L_b C2).mono ?_
            rintro e' w' ⟨rfl, hw⟩
            subst w'
            go_wp2_with fail
            refine (abs3_at L_b R_ab).mono ?_
            rintro e' w' ⟨rfl, hw⟩
            subst w'
            go_wp2_with fail
            refine (less3_at L_a (Lib.hid (by decide)) LL).mono ?_
            rintro e' w' ⟨rfl, hw⟩
            subst w'
            go_wp2_with fail
            refine (abs3_at L_a R_aa).mono ?_
            rintro e' w' ⟨rfl, hw⟩
            subst w'
            go_wp2_with fail
            refine (log3_at L_aa R_lg).mono ?_
            rintro e' W1 ⟨rfl, hC⟩
            have hB1 := hB0.trans (hC.mono hz0)
            have hz1 := hB1.size
            clear hC hB0 hz0
            go_wp2_with fail
            refine (mul3_at L_b L_lg R_bl).mono ?_
            rintro e' W2 ⟨rfl, hC⟩
            have hB2 := hB1.trans (hC.mono hz1)
            have hz2 := hB2.size
            clear hC hB1 hz1
            go_wp2_with fail
            refine (exp3_at L_bl R_y).mono ?_
            rintro e' W3 ⟨rfl, hC⟩
            have hB3 := hB2.trans (hC.mono hz2)
            have hz3 := hB3.size
            clear hC hB2 hz2
            go_wp2_with fail
            refine (whole3_at L_b C2 WB).mono ?_
            rintro e' W4 ⟨rfl, hC⟩
            have hB4 := hB3.trans (hC.mono hz3)
            have hz4 := hB4.size
            clear hC hB3 hz3
            go_wp2_with fail
            refine (abs3_at L_b R_ab).mono ?_
            rintro e' w' ⟨rfl, hw⟩
            subst w'
            go_wp2_with fail
            refine (less3_at L_ab (Lib.hid (by decide)) LB).mono ?_
            rintro e' w' ⟨rfl, hw⟩
            subst w'
            go_wp2
            go_ret
            exact ⟨by rw [HE.out]; try rfl, hB4⟩
          obtain ⟨od, hod⟩ : ∃ v, decide (n % 2 = 1) = v := ⟨_, rfl⟩
          rw [hod] at hodd
          have HE : Hid (powP a b = y) := Lib.hid (by rw [HP.out, if_neg (fun h => by cases h.2), if_neg (fun h => by cases h.1), if_neg (by rw [HSG.out]; simp)])
          clear hod
          cases od
          · go_enter Tryz.func12, Tryz.ntmps12
            have hB0 := Below.refl w.heap.size w
            have hz0 := hB0.size
            go_wp2_with fail
            refine (abs3_at L_b R_ab).mono ?_
            rintro e' w' ⟨rfl, hw⟩
            subst w'
            go_wp2_with fail
            refine (rnone_at L_a C1).mono ?_
            rintro e' w' ⟨rfl, hw⟩
            subst w'
            go_wp2_with fail
            refine (rnone_at L_b C2).mono ?_
            rintro e' w' ⟨rfl, hw⟩
            subst w'
            go_wp2_with fail
            refine (abs3_at L_b R_ab).mono ?_
            rintro e' w' ⟨rfl, hw⟩
            subst w'
            go_wp2_with fail
            refine (less3_at L_a (Lib.hid (by decide)) LL).mono ?_
            rintro e' w' ⟨rfl, hw⟩
            subst w'
            go_wp2_with fail
            refine (abs3_at L_a R_aa).mono ?_
            rintro e' w' ⟨rfl, hw⟩
            subst w'
            go_wp2_with fail
            refine (log3_at L_aa R_lg).mono ?_
            rintro e' W1 ⟨rfl, hC⟩
            have hB1 := hB0.trans (hC.mono hz0)
            have hz1 := hB1.size
            clear hC hB0 hz0
            go_wp2_with fail
            refine (mul3_at L_b L_lg R_bl).mono ?_
            rintro e' W2 ⟨rfl, hC⟩
            have hB2 := hB1.trans (hC.mono hz1)
            have hz2 := hB2.size
            clear hC hB1 hz1
            go_wp2_with fail
            refine (exp3_at L_bl R_y).mono ?_
            rintro e' W3 ⟨rfl, hC⟩
            have hB3 := hB2.trans (hC.mono hz2)
            have hz3 := hB3.size
            clear hC hB2 hz2
            go_wp2_with fail
            refine (whole3_at L_b C2 WB).mono ?_
            rintro e' W4 ⟨rfl, hC⟩
            have hB4 := hB3.trans (hC.mono hz3)
            have hz4 := hB4.size
            clear hC hB3 hz3
            go_wp2_with fail
            refine (abs3_at L_b R_ab).mono ?_
            rintro e' w' ⟨rfl, hw⟩
            subst w'
            go_wp2_with fail
            refine (less3_at L_ab (Lib.hid (by decide)) LB).mono ?_
            rintro e' w' ⟨rfl, hw⟩
            subst w'
            go_wp2_with fail
            refine (rtoint_at L_b HN).mono ?_
            rintro e' w' ⟨rfl, hw⟩
            subst w'
            go_wp2
            go_ret
            exact ⟨by rw [HE.out]; try rfl, hB4⟩
          · go_enter Tryz.func12, Tryz.ntmps12
            have hB0 := Below.refl w.heap.size w
            have hz0 := hB0.size
            go_wp2_with fail
            refine (abs3_at L_b R_ab).mono ?_
            rintro e' w' ⟨rfl, hw⟩
            subst w'
            go_wp2_with fail
            refine (rnone_at L_a C1).mono ?_
            rintro e' w' ⟨rfl, hw⟩
            subst w'
            go_wp2_with fail
            refine (rnone_at L_b C2).mono ?_
            rintro e' w' ⟨rfl, hw⟩
            subst w'
            go_wp2_with fail
            refine (abs3_at L_b R_ab).mono ?_
            rintro e' w' ⟨rfl, hw⟩
            subst w'
            go_wp2_with fail
            refine (less3_at L_a (Lib.hid (by decide)) LL).mono ?_
            rintro e' w' ⟨rfl, hw⟩
            subst w'
            go_wp2_with fail
            refine (abs3_at L_a R_aa).mono ?_
            rintro e' w' ⟨rfl, hw⟩
            subst w'
            go_wp2_with fail
            refine (log3_at L_aa R_lg).mono ?_
            rintro e' W1 ⟨rfl, hC⟩
            have hB1 := hB0.trans (hC.mono hz0)
            have hz1 := hB1.size
            clear hC hB0 hz0
            go_wp2_with fail
            refine (mul3_at L_b L_lg R_bl).mono ?_
            rintro e' W2 ⟨rfl, hC⟩
            have hB2 := hB1.trans (hC.mono hz1)
            have hz2 := hB2.size
            clear hC hB1 hz1
            go_wp2_with fail
            refine (exp3_at L_bl R_y).mono ?_
            rintro e' W3 ⟨rfl, hC⟩
            have hB3 := hB2.trans (hC.mono hz2)
            have hz3 := hB3.size
            clear hC hB2 hz2
            go_wp2_with fail
            refine (whole3_at L_b C2 WB).mono ?_
            rintro e' W4 ⟨rfl, hC⟩
            have hB4 := hB3.trans (hC.mono hz3)
            have hz4 := hB4.size
            clear hC hB3 hz3
            go_wp2_with fail
            refine (abs3_at L_b R_ab).mono ?_
            rintro e' w' ⟨rfl, hw⟩
            subst w'
            go_wp2_with fail
            refine (less3_at L_ab (Lib.hid (by decide)) LB).mono ?_
            rintro e' w' ⟨rfl, hw⟩
            subst w'
            go_wp2_with fail
            refine (rtoint_at L_b HN).mono ?_
            rintro e' w' ⟨rfl, hw⟩
            subst w'
            go_wp2
            go_ret
            exact ⟨by rw [HE.out]; try rfl, hB4⟩
        cases wb
        case false =>
          have HE : Hid (powP a b = y) := Lib.hid (by rw [HP.out, if_neg (fun h => by cases h.2), if_neg (fun h => by cases h.1), if_neg (by simp)])
          go_enter Tryz.func12, Tryz.ntmps12
          have hB0 := Below.refl w.heap.size w
          have hz0 := hB0.size
          go_wp2_with fail
          refine (abs3_at L_b R_ab).mono ?_
          rintro e' w' ⟨rfl, hw⟩
          subst w'
          go_wp2_with fail
          refine (rnone_at L_a C1).mono ?_
          rintro e' w' ⟨rfl, hw⟩
          subst w'
          go_wp2_with fail
          refine (rnone_at L_b C2).mono ?_
          rintro e' w' ⟨rfl, hw⟩
          subst w'
          go_wp2_with fail
          refine (abs3_at L_b R_ab).mono ?_
          rintro e' w' ⟨rfl, hw⟩
          subst w'
          go_wp2_with fail
          refine (less3_at L_a (Lib.hid (by decide)) LL).mono ?_
          rintro e' w' ⟨rfl, hw⟩
          subst w'
          go_wp2_with fail
          refine (abs3_at L_a R_aa).mono ?_
          rintro e' w' ⟨rfl, hw⟩
          subst w'
          go_wp2_with fail
          refine (log3_at L_aa R_lg).mono ?_
          rintro e' W1 ⟨rfl, hC⟩
          have hB1 := hB0.trans (hC.mono hz0)
          have hz1 := hB1.size
          clear hC hB0 hz0
          go_wp2_with fail
          refine (mul3_at L_b L_lg R_bl).mono ?_
          rintro e' W2 ⟨rfl, hC⟩
          have hB2 := hB1.trans (hC.mono hz1)
          have hz2 := hB2.size
          clear hC hB1 hz1
          go_wp2_with fail
          refine (exp3_at L_bl R_y).mono ?_
          rintro e' W3 ⟨rfl, hC⟩
          have hB3 := hB2.trans (hC.mono hz2)
          have hz3 := hB3.size
          clear hC hB2 hz2
          go_wp2_with fail
          refine (whole3_at L_b C2 WB).mono ?_
          rintro e' W4 ⟨rfl, hC⟩
          have hB4 := hB3.trans (hC.mono hz3)
          have hz4 := hB4.size
          clear hC hB3 hz3
          go_wp2
          go_ret
          exact ⟨by rw [HE.out]; try rfl, hB4⟩
        cases lb
        case false =>
          have HE : Hid (powP a b = y) := Lib.hid (by rw [HP.out, if_neg (fun h => by cases h.2), if_neg (fun h => by cases h.1), if_neg (by simp)])
          go_enter Tryz.func12, Tryz.ntmps12
          have hB0 := Below.refl w.heap.size w
          have hz0 := hB0.size
          go_wp2_with fail
          refine (abs3_at L_b R_ab).mono ?_
          rintro e' w' ⟨rfl, hw⟩
          subst w'
          go_wp2_with fail
          refine (rnone_at L_a C1).mono ?_
          rintro e' w' ⟨rfl, hw⟩
          subst w'
          go_wp2_with fail
          refine (rnone_at L_b C2).mono ?_
          rintro e' w' ⟨rfl, hw⟩
          subst w'
          go_wp2_with fail
          refine (abs3_at L_b R_ab).mono ?_
          rintro e' w' ⟨rfl, hw⟩
          subst w'
          go_wp2_with fail
          refine (less3_at L_a (Lib.hid (by decide)) LL).mono ?_
          rintro e' w' ⟨rfl, hw⟩
          subst w'
          go_wp2_with fail
          refine (abs3_at L_a R_aa).mono ?_
          rintro e' w' ⟨rfl, hw⟩
          subst w'
          go_wp2_with fail
          refine (log3_at L_aa R_lg).mono ?_
          rintro e' W1 ⟨rfl, hC⟩
          have hB1 := hB0.trans (hC.mono hz0)
          have hz1 := hB1.size
          clear hC hB0 hz0
          go_wp2_with fail
          refine (mul3_at L_b L_lg R_bl).mono ?_
          rintro e' W2 ⟨rfl, hC⟩
          have hB2 := hB1.trans (hC.mono hz1)
          have hz2 := hB2.size
          clear hC hB1 hz1
          go_wp2_with fail
          refine (exp3_at L_bl R_y).mono ?_
          rintro e' W3 ⟨rfl, hC⟩
          have hB3 := hB2.trans (hC.mono hz2)
          have hz3 := hB3.size
          clear hC hB2 hz2
          go_wp2_with fail
          refine (whole3_at L_b C2 WB).mono ?_
          rintro e' W4 ⟨rfl, hC⟩
          have hB4 := hB3.trans (hC.mono hz3)
          have hz4 := hB4.size
          clear hC hB3 hz3
          go_wp2_with fail
          refine (abs3_at L_b R_ab).mono ?_
          rintro e' w' ⟨rfl, hw⟩
          subst w'
          go_wp2_with fail
          refine (less3_at L_ab (Lib.hid (by decide)) LB).mono ?_
          rintro e' w' ⟨rfl, hw⟩
          subst w'
          go_wp2
          go_ret
          exact ⟨by rw [HE.out]; try rfl, hB4⟩
        by_cases ho : n % 2 = 1
        · rw [decide_eq_true ho] at hodd
          have HE : Hid (powP a b = ny) := Lib.hid (by rw [HP.out, if_neg (fun h => by cases h.2), if_neg (fun h => by cases h.1), if_pos ⟨HSG.out.2 rfl, rfl, rfl, ho⟩])
          clear ho
          go_enter Tryz.func12, Tryz.ntmps12
          have hB0 := Below.refl w.heap.size w
          have hz0 := hB0.size
          go_wp2_with fail
          refine (abs3_at L_b R_ab).mono ?_
          rintro e' w' ⟨rfl, hw⟩
          subst w'
          go_wp2_with fail
          refine (rnone_at L_a C1).mono ?_
          rintro e' w' ⟨rfl, hw⟩
          subst w'
          go_wp2_with fail
          refine (rnone_at L_b C2).mono ?_
          rintro e' w' ⟨rfl, hw⟩
          subst w'
          go_wp2_with fail
          refine (abs3_at L_b R_ab).mono ?_
          rintro e' w' ⟨rfl, hw⟩
          subst w'
          go_wp2_with fail
          refine (less3_at L_a (Lib.hid (by decide)) LL).mono ?_
          rintro e' w' ⟨rfl, hw⟩
          subst w'
          go_wp2_with fail
          refine (abs3_at L_a R_aa).mono ?_
          rintro e' w' ⟨rfl, hw⟩
          subst w'
          go_wp2_with fail
          refine (log3_at L_aa R_lg).mono ?_
          rintro e' W1 ⟨rfl, hC⟩
          have hB1 := hB0.trans (hC.mono hz0)
          have hz1 := hB1.size
          clear hC hB0 hz0
          go_wp2_with fail
          refine (mul3_at L_b L_lg R_bl).mono ?_
          rintro e' W2 ⟨rfl, hC⟩
          have hB2 := hB1.trans (hC.mono hz1)
          have hz2 := hB2.size
          clear hC hB1 hz1
          go_wp2_with fail
          refine (exp3_at L_bl R_y).mono ?_
          rintro e' W3 ⟨rfl, hC⟩
          have hB3 := hB2.trans (hC.mono hz2)
          have hz3 := hB3.size
          clear hC hB2 hz2
          go_wp2_with fail
          refine (whole3_at L_b C2 WB).mono ?_
          rintro e' W4 ⟨rfl, hC⟩
          have hB4 := hB3.trans (hC.mono hz3)
          have hz4 := hB4.size
          clear hC hB3 hz3
          go_wp2_with fail
          refine (abs3_at L_b R_ab).mono ?_
          rintro e' w' ⟨rfl, hw⟩
          subst w'
          go_wp2_with fail
          refine (less3_at L_ab (Lib.hid (by decide)) LB).mono ?_
          rintro e' w' ⟨rfl, hw⟩
          subst w'
          go_wp2_with fail
          refine (rtoint_at L_b HN).mono ?_
          rintro e' w' ⟨rfl, hw⟩
          subst w'
          go_wp2_with fail
          refine (neg3_at L_y R_ny).mono ?_
          rintro e' w' ⟨rfl, hw⟩
          subst w'
          go_wp2
          go_ret
          exact ⟨by rw [HE.out]; try rfl, hB4⟩
        · rw [decide_eq_false ho] at hodd
          have HE : Hid (powP a b = y) := Lib.hid (by rw [HP.out, if_neg (fun h => by cases h.2), if_neg (fun h => by cases h.1), if_neg (fun h => ho h.2.2.2)])
          clear ho
          go_enter Tryz.func12, Tryz.ntmps12
          have hB0 := Below.refl w.heap.size w
          have hz0 := hB0.size
          go_wp2_with fail
          refine (abs3_at L_b R_ab).mono ?_
          rintro e' w' ⟨rfl, hw⟩
          subst w'
          go_wp2_with fail
          refine (rnone_at L_a C1).mono ?_
          rintro e' w' ⟨rfl, hw⟩
          subst w'
          go_wp2_with fail
          refine (rnone_at L_b C2).mono ?_
          rintro e' w' ⟨rfl, hw⟩
          subst w'
          go_wp2_with fail
          refine (abs3_at L_b R_ab).mono ?_
          rintro e' w' ⟨rfl, hw⟩
          subst w'
          go_wp2_with fail
          refine (less3_at L_a (Lib.hid (by decide)) LL).mono ?_
          rintro e' w' ⟨rfl, hw⟩
          subst w'
          go_wp2_with fail
          refine (abs3_at L_a R_aa).mono ?_
          rintro e' w' ⟨rfl, hw⟩
          subst w'
          go_wp2_with fail
          refine (log3_at L_aa R_lg).mono ?_
          rintro e' W1 ⟨rfl, hC⟩
          have hB1 := hB0.trans (hC.mono hz0)
          have hz1 := hB1.size
          clear hC hB0 hz0
          go_wp2_with fail
          refine (mul3_at L_b L_lg R_bl).mono ?_
          rintro e' W2 ⟨rfl, hC⟩
          have hB2 := hB1.trans (hC.mono hz1)
          have hz2 := hB2.size
          clear hC hB1 hz1
          go_wp2_with fail
          refine (exp3_at L_bl R_y).mono ?_
          rintro e' W3 ⟨rfl, hC⟩
          have hB3 := hB2.trans (hC.mono hz2)
          have hz3 := hB3.size
          clear hC hB2 hz2
          go_wp2_with fail
          refine (whole3_at L_b C2 WB).mono ?_
          rintro e' W4 ⟨rfl, hC⟩
          have hB4 := hB3.trans (hC.mono hz3)
          have hz4 := hB4.size
          clear hC hB3 hz3
          go_wp2_with fail
          refine (abs3_at L_b R_ab).mono ?_
          rintro e' w' ⟨rfl, hw⟩
          subst w'
          go_wp2_with fail
          refine (less3_at L_ab (Lib.hid (by decide)) LB).mono ?_
          rintro e' w' ⟨rfl, hw⟩
          subst w'
          go_wp2_with fail
          refine (rtoint_at L_b HN).mono ?_
          rintro e' w' ⟨rfl, hw⟩
          subst w'
          go_wp2
          go_ret
          exact ⟨by rw [HE.out]; try rfl, hB4⟩
      · cases wb
        case false =>
          have HE : Hid (powP a b = 2143289344) := Lib.hid (by rw [HP.out, if_neg (fun h => by cases h.2), if_pos ⟨rfl, rfl, rfl⟩])
          go_enter Tryz.func12, Tryz.ntmps12
          have hB0 := Below.refl w.heap.size w
          have hz0 := hB0.size
          go_wp2_with fail
          refine (abs3_at L_b R_ab).mono ?_
          rintro e' w' ⟨rfl, hw⟩
          subst w'
          go_wp2_with fail
          refine (rnone_at L_a C1).mono ?_
          rintro e' w' ⟨rfl, hw⟩
          subst w'
          go_wp2_with fail
          refine (rnone_at L_b C2).mono ?_
          rintro e' w' ⟨rfl, hw⟩
          subst w'
          go_wp2_with fail
          refine (abs3_at L_b R_ab).mono ?_
          rintro e' w' ⟨rfl, hw⟩
          subst w'
          go_wp2_with fail
          refine (less3_at L_a (Lib.hid (by decide)) LL).mono ?_
          rintro e' w' ⟨rfl, hw⟩
          subst w'
          go_wp2_with fail
          refine (abs3_at L_b R_ab).mono ?_
          rintro e' w' ⟨rfl, hw⟩
          subst w'
          go_wp2_with fail
          refine (whole3_at L_b C2 WB).mono ?_
          rintro e' W1 ⟨rfl, hC⟩
          have hB1 := hB0.trans (hC.mono hz0)
          have hz1 := hB1.size
          clear hC hB0 hz0
          go_wp2
          go_ret
          exact ⟨by rw [HE.out]; try rfl, hB1⟩
        cases sg
        case false =>
          cases lb
          case false =>
            have HE : Hid (powP a b = y) := Lib.hid (by rw [HP.out, if_neg (fun h => by cases h.2), if_neg (fun h => by cases h.2.2), if_neg (by rw [HSG.out]; simp)])
            go_enter Tryz.func12, Tryz.ntmps12
            have hB0 := Below.refl w.heap.size w
            have hz0 := hB0.size
            go_wp2_with fail
            refine (abs3_at L_b R_ab).mono ?_
            rintro e' w' ⟨rfl, hw⟩
            subst w'
            go_wp2_with fail
            refine (rnone_at L_a C1).mono ?_
            rintro e' w' ⟨rfl, hw⟩
            subst w'
            go_wp2_with fail
            refine (rnone_at L_b C2).mono ?_
            rintro e' w' ⟨rfl, hw⟩
            subst w'
            go_wp2_with fail
            refine (abs3_at L_b R_ab).mono ?_
            rintro e' w' ⟨rfl, hw⟩
            subst w'
            go_wp2_with fail
            refine (less3_at L_a (Lib.hid (by decide)) LL).mono ?_
            rintro e' w' ⟨rfl, hw⟩
            subst w'
            go_wp2_with fail
            refine (abs3_at L_b R_ab).mono ?_
            rintro e' w' ⟨rfl, hw⟩
            subst w'
            go_wp2_with fail
            refine (whole3_at L_b C2 WB).mono ?_
            rintro e' W1 ⟨rfl, hC⟩
            have hB1 := hB0.trans (hC.mono hz0)
            have hz1 := hB1.size
            clear hC hB0 hz0
            go_wp2_with fail
            refine (abs3_at L_a R_aa).mono ?_
            rintro e' w' ⟨rfl, hw⟩
            subst w'
            go_wp2_with fail
            refine (log3_at L_aa R_lg).mono ?_
            rintro e' W2 ⟨rfl, hC⟩
            have hB2 := hB1.trans (hC.mono hz1)
            have hz2 := hB2.size
            clear hC hB1 hz1
            go_wp2_with fail
            refine (mul3_at L_b L_lg R_bl).mono ?_
            rintro e' W3 ⟨rfl, hC⟩
            have hB3 := hB2.trans (hC.mono hz2)
            have hz3 := hB3.size
            clear hC hB2 hz2
            go_wp2_with fail
            refine (exp3_at L_bl R_y).mono ?_
            rintro e' W4 ⟨rfl, hC⟩
            have hB4 := hB3.trans (hC.mono hz3)
            have hz4 := hB4.size
            clear hC hB3 hz3
            go_wp2_with fail
            refine (whole3_at L_b C2 WB).mono ?_
            rintro e' W5 ⟨rfl, hC⟩
            have hB5 := hB4.trans (hC.mono hz4)
            have hz5 := hB5.size
            clear hC hB4 hz4
            go_wp2_with fail
            refine (abs3_at L_b R_ab).mono ?_
            rintro e' w' ⟨rfl, hw⟩
            subst w'
            go_wp2_with fail
            refine (less3_at L_ab (Lib.hid (by decide)) LB).mono ?_
            rintro e' w' ⟨rfl, hw⟩
            subst w'
            go_wp2
            go_ret
            exact ⟨by rw [HE.out]; try rfl, hB5⟩
          obtain ⟨od, hod⟩ : ∃ v, decide (n % 2 = 1) = v := ⟨_, rfl⟩
          rw [hod] at hodd
          have HE : Hid (powP a b = y) := Lib.hid (by rw [HP.out, if_neg (fun h => by cases h.2), if_neg (fun h => by cases h.2.2), if_neg (by rw [HSG.out]; simp)])
          clear hod
          cases od
          · go_enter Tryz.func12, Tryz.ntmps12
            have hB0 := Below.refl w.heap.size w
            have hz0 := hB0.size
            go_wp2_with fail
            refine (abs3_at L_b R_ab).mono ?_
            rintro e' w' ⟨rfl, hw⟩
            subst w'
            go_wp2_with fail
            refine (rnone_at L_a C1).mono ?_
            rintro e' w' ⟨rfl, hw⟩
            subst w'
            go_wp2_with fail
            refine (rnone_at L_b C2).mono ?_
            rintro e' w' ⟨rfl, hw⟩
            subst w'
            go_wp2_with fail
            refine (abs3_at L_b R_ab).mono ?_
            rintro e' w' ⟨rfl, hw⟩
            subst w'
            go_wp2_with fail
            refine (less3_at L_a (Lib.hid (by decide)) LL).mono ?_
            rintro e' w' ⟨rfl, hw⟩
            subst w'
            go_wp2_with fail
            refine (abs3_at L_b R_ab).mono ?_
            rintro e' w' ⟨rfl, hw⟩
            subst w'
            go_wp2_with fail
            refine (whole3_at L_b C2 WB).mono ?_
            rintro e' W1 ⟨rfl, hC⟩
            have hB1 := hB0.trans (hC.mono hz0)
            have hz1 := hB1.size
            clear hC hB0 hz0
            go_wp2_with fail
            refine (abs3_at L_a R_aa).mono ?_
            rintro e' w' ⟨rfl, hw⟩
            subst w'
            go_wp2_with fail
            refine (log3_at L_aa R_lg).mono ?_
            rintro e' W2 ⟨rfl, hC⟩
            have hB2 := hB1.trans (hC.mono hz1)
            have hz2 := hB2.size
            clear hC hB1 hz1
            go_wp2_with fail
            refine (mul3_at L_b L_lg R_bl).mono ?_
            rintro e' W3 ⟨rfl, hC⟩
            have hB3 := hB2.trans (hC.mono hz2)
            have hz3 := hB3.size
            clear hC hB2 hz2
            go_wp2_with fail
            refine (exp3_at L_bl R_y).mono ?_
            rintro e' W4 ⟨rfl, hC⟩
            have hB4 := hB3.trans (hC.mono hz3)
            have hz4 := hB4.size
            clear hC hB3 hz3
            go_wp2_with fail
            refine (whole3_at L_b C2 WB).mono ?_
            rintro e' W5 ⟨rfl, hC⟩
            have hB5 := hB4.trans (hC.mono hz4)
            have hz5 := hB5.size
            clear hC hB4 hz4
            go_wp2_with fail
            refine (abs3_at L_b R_ab).mono ?_
            rintro e' w' ⟨rfl, hw⟩
            subst w'
            go_wp2_with fail
            refine (less3_at L_ab (Lib.hid (by decide)) LB).mono ?_
            rintro e' w' ⟨rfl, hw⟩
            subst w'
            go_wp2_with fail
            refine (rtoint_at L_b HN).mono ?_
            rintro e' w' ⟨rfl, hw⟩
            subst w'
            go_wp2
            go_ret
            exact ⟨by rw [HE.out]; try rfl, hB5⟩
          · go_enter Tryz.func12, Tryz.ntmps12
            have hB0 := Below.refl w.heap.size w
            have hz0 := hB0.size
            go_wp2_with fail
            refine (abs3_at L_b R_ab).mono ?_
            rintro e' w' ⟨rfl, hw⟩
            subst w'
            go_wp2_with fail
            refine (rnone_at L_a C1).mono ?_
            rintro e' w' ⟨rfl, hw⟩
            subst w'
            go_wp2_with fail
            refine (rnone_at L_b C2).mono ?_
            rintro e' w' ⟨rfl, hw⟩
            subst w'
            go_wp2_with fail
            refine (abs3_at L_b R_ab).mono ?_
            rintro e' w' ⟨rfl, hw⟩
            subst w'
            go_wp2_with fail
            refine (less3_at L_a (Lib.hid (by decide)) LL).mono ?_
            rintro e' w' ⟨rfl, hw⟩
            subst w'
            go_wp2_with fail
            refine (abs3_at L_b R_ab).mono ?_
            rintro e' w' ⟨rfl, hw⟩
            subst w'
            go_wp2_with fail
            refine (whole3_at L_b C2 WB).mono ?_
            rintro e' W1 ⟨rfl, hC⟩
            have hB1 := hB0.trans (hC.mono hz0)
            have hz1 := hB1.size
            clear hC hB0 hz0
            go_wp2_with fail
            refine (abs3_at L_a R_aa).mono ?_
            rintro e' w' ⟨rfl, hw⟩
            subst w'
            go_wp2_with fail
            refine (log3_at L_aa R_lg).mono ?_
            rintro e' W2 ⟨rfl, hC⟩
            have hB2 := hB1.trans (hC.mono hz1)
            have hz2 := hB2.size
            clear hC hB1 hz1
            go_wp2_with fail
            refine (mul3_at L_b L_lg R_bl).mono ?_
            rintro e' W3 ⟨rfl, hC⟩
            have hB3 := hB2.trans (hC.mono hz2)
            have hz3 := hB3.size
            clear hC hB2 hz2
            go_wp2_with fail
            refine (exp3_at L_bl R_y).mono ?_
            rintro e' W4 ⟨rfl, hC⟩
            have hB4 := hB3.trans (hC.mono hz3)
            have hz4 := hB4.size
            clear hC hB3 hz3
            go_wp2_with fail
            refine (whole3_at L_b C2 WB).mono ?_
            rintro e' W5 ⟨rfl, hC⟩
            have hB5 := hB4.trans (hC.mono hz4)
            have hz5 := hB5.size
            clear hC hB4 hz4
            go_wp2_with fail
            refine (abs3_at L_b R_ab).mono ?_
            rintro e' w' ⟨rfl, hw⟩
            subst w'
            go_wp2_with fail
            refine (less3_at L_ab (Lib.hid (by decide)) LB).mono ?_
            rintro e' w' ⟨rfl, hw⟩
            subst w'
            go_wp2_with fail
            refine (rtoint_at L_b HN).mono ?_
            rintro e' w' ⟨rfl, hw⟩
            subst w'
            go_wp2
            go_ret
            exact ⟨by rw [HE.out]; try rfl, hB5⟩
        cases lb
        case false =>
          have HE : Hid (powP a b = y) := Lib.hid (by rw [HP.out, if_neg (fun h => by cases h.2), if_neg (fun h => by cases h.2.2), if_neg (by simp)])
          go_enter Tryz.func12, Tryz.ntmps12
          have hB0 := Below.refl w.heap.size w
          have hz0 := hB0.size
          go_wp2_with fail
          refine (abs3_at L_b R_ab).mono ?_
          rintro e' w' ⟨rfl, hw⟩
          subst w'
          go_wp2_with fail
          refine (rnone_at L_a C1).mono ?_
          rintro e' w' ⟨rfl, hw⟩
          subst w'
          go_wp2_with fail
          refine (rnone_at L_b C2).mono ?_
          rintro e' w' ⟨rfl, hw⟩
          subst w'
          go_wp2_with fail
          refine (abs3_at L_b R_ab).mono ?_
          rintro e' w' ⟨rfl, hw⟩
          subst w'
          go_wp2_with fail
          refine (less3_at L_a (Lib.hid (by decide)) LL).mono ?_
          rintro e' w' ⟨rfl, hw⟩
          subst w'
          go_wp2_with fail
          refine (abs3_at L_b R_ab).mono ?_
          rintro e' w' ⟨rfl, hw⟩
          subst w'
          go_wp2_with fail
          refine (whole3_at L_b C2 WB).mono ?_
          rintro e' W1 ⟨rfl, hC⟩
          have hB1 := hB0.trans (hC.mono hz0)
          have hz1 := hB1.size
          clear hC hB0 hz0
          go_wp2_with fail
          refine (abs3_at L_a R_aa).mono ?_
          rintro e' w' ⟨rfl, hw⟩
          subst w'
          go_wp2_with fail
          refine (log3_at L_aa R_lg).mono ?_
          rintro e' W2 ⟨rfl, hC⟩
          have hB2 := hB1.trans (hC.mono hz1)
          have hz2 := hB2.size
          clear hC hB1 hz1
          go_wp2_with fail
          refine (mul3_at L_b L_lg R_bl).mono ?_
          rintro e' W3 ⟨rfl, hC⟩
          have hB3 := hB2.trans (hC.mono hz2)
          have hz3 := hB3.size
          clear hC hB2 hz2
          go_wp2_with fail
          refine (exp3_at L_bl R_y).mono ?_
          rintro e' W4 ⟨rfl, hC⟩
          have hB4 := hB3.trans (hC.mono hz3)
          have hz4 := hB4.size
          clear hC hB3 hz3
          go_wp2_with fail
          refine (whole3_at L_b C2 WB).mono ?_
          rintro e' W5 ⟨rfl, hC⟩
          have hB5 := hB4.trans (hC.mono hz4)
          have hz5 := hB5.size
          clear hC hB4 hz4
          go_wp2_with fail
          refine (abs3_at L_b R_ab).mono ?_
          rintro e' w' ⟨rfl, hw⟩
          subst w'
          go_wp2_with fail
          refine (less3_at L_ab (Lib.hid (by decide)) LB).mono ?_
          rintro e' w' ⟨rfl, hw⟩
          subst w'
          go_wp2
          go_ret
          exact ⟨by rw [HE.out]; try rfl, hB5⟩
        by_cases ho : n % 2 = 1
        · rw [decide_eq_true ho] at hodd
          have HE : Hid (powP a b = ny) := Lib.hid (by rw [HP.out, if_neg (fun h => by cases h.2), if_neg (fun h => by cases h.2.2), if_pos ⟨HSG.out.2 rfl, rfl, rfl, ho⟩])
          clear ho
          go_enter Tryz.func12, Tryz.ntmps12
          have hB0 := Below.refl w.heap.size w
          have hz0 := hB0.size
          go_wp2_with fail
          refine (abs3_at L_b R_ab).mono ?_
          rintro e' w' ⟨rfl, hw⟩
          subst w'
          go_wp2_with fail
          refine (rnone_at L_a C1).mono ?_
          rintro e' w' ⟨rfl, hw⟩
          subst w'
          go_wp2_with fail
          refine (rnone_at L_b C2).mono ?_
          rintro e' w' ⟨rfl, hw⟩
          subst w'
          go_wp2_with fail
          refine (abs3_at L_b R_ab).mono ?_
          rintro e' w' ⟨rfl, hw⟩
          subst w'
          go_wp2_with fail
          refine (less3_at L_a (Lib.hid (by decide)) LL).mono ?_
          rintro e' w' ⟨rfl, hw⟩
          subst w'
          go_wp2_with fail
          refine (abs3_at L_b R_ab).mono ?_
          rintro e' w' ⟨rfl, hw⟩
          subst w'
          go_wp2_with fail
          refine (whole3_at L_b C2 WB).mono ?_
          rintro e' W1 ⟨rfl, hC⟩
          have hB1 := hB0.trans (hC.mono hz0)
          have hz1 := hB1.size
          clear hC hB0 hz0
          go_wp2_with fail
          refine (abs3_at L_a R_aa).mono ?_
          rintro e' w' ⟨rfl, hw⟩
          subst w'
          go_wp2_with fail
          refine (log3_at L_aa R_lg).mono ?_
          rintro e' W2 ⟨rfl, hC⟩
          have hB2 := hB1.trans (hC.mono hz1)
          have hz2 := hB2.size
          clear hC hB1 hz1
          go_wp2_with fail
          refine (mul3_at L_b L_lg R_bl).mono ?_
          rintro e' W3 ⟨rfl, hC⟩
          have hB3 := hB2.trans (hC.mono hz2)
          have hz3 := hB3.size
          clear hC hB2 hz2
          go_wp2_with fail
          refine (exp3_at L_bl R_y).mono ?_
          rintro e' W4 ⟨rfl, hC⟩
          have hB4 := hB3.trans (hC.mono hz3)
          have hz4 := hB4.size
          clear hC hB3 hz3
          go_wp2_with fail
          refine (whole3_at L_b C2 WB).mono ?_
          rintro e' W5 ⟨rfl, hC⟩
          have hB5 := hB4.trans (hC.mono hz4)
          have hz5 := hB5.size
          clear hC hB4 hz4
          go_wp2_with fail
          refine (abs3_at L_b R_ab).mono ?_
          rintro e' w' ⟨rfl, hw⟩
          subst w'
          go_wp2_with fail
          refine (less3_at L_ab (Lib.hid (by decide)) LB).mono ?_
          rintro e' w' ⟨rfl, hw⟩
          subst w'
          go_wp2_with fail
          refine (rtoint_at L_b HN).mono ?_
          rintro e' w' ⟨rfl, hw⟩
          subst w'
          go_wp2_with fail
          refine (neg3_at L_y R_ny).mono ?_
          rintro e' w' ⟨rfl, hw⟩
          subst w'
          go_wp2
          go_ret
          exact ⟨by rw [HE.out]; try rfl, hB5⟩
        · rw [decide_eq_false ho] at hodd
          have HE : Hid (powP a b = y) := Lib.hid (by rw [HP.out, if_neg (fun h => by cases h.2), if_neg (fun h => by cases h.2.2), if_neg (fun h => ho h.2.2.2)])
          clear ho
          go_enter Tryz.func12, Tryz.ntmps12
          have hB0 := Below.refl w.heap.size w
          have hz0 := hB0.size
          go_wp2_with fail
          refine (abs3_at L_b R_ab).mono ?_
          rintro e' w' ⟨rfl, hw⟩
          subst w'
          go_wp2_with fail
          refine (rnone_at L_a C1).mono ?_
          rintro e' w' ⟨rfl, hw⟩
          subst w'
          go_wp2_with fail
          refine (rnone_at L_b C2).mono ?_
          rintro e' w' ⟨rfl, hw⟩
          subst w'
          go_wp2_with fail
          refine (abs3_at L_b R_ab).mono ?_
          rintro e' w' ⟨rfl, hw⟩
          subst w'
          go_wp2_with fail
          refine (less3_at L_a (Lib.hid (by decide)) LL).mono ?_
          rintro e' w' ⟨rfl, hw⟩
          subst w'
          go_wp2_with fail
          refine (abs3_at L_b R_ab).mono ?_
          rintro e' w' ⟨rfl, hw⟩
          subst w'
          go_wp2_with fail
          refine (whole3_at L_b C2 WB).mono ?_
          rintro e' W1 ⟨rfl, hC⟩
          have hB1 := hB0.trans (hC.mono hz0)
          have hz1 := hB1.size
          clear hC hB0 hz0
          go_wp2_with fail
          refine (abs3_at L_a R_aa).mono ?_
          rintro e' w' ⟨rfl, hw⟩
          subst w'
          go_wp2_with fail
          refine (log3_at L_aa R_lg).mono ?_
          rintro e' W2 ⟨rfl, hC⟩
          have hB2 := hB1.trans (hC.mono hz1)
          have hz2 := hB2.size
          clear hC hB1 hz1
          go_wp2_with fail
          refine (mul3_at L_b L_lg R_bl).mono ?_
          rintro e' W3 ⟨rfl, hC⟩
          have hB3 := hB2.trans (hC.mono hz2)
          have hz3 := hB3.size
          clear hC hB2 hz2
          go_wp2_with fail
          refine (exp3_at L_bl R_y).mono ?_
          rintro e' W4 ⟨rfl, hC⟩
          have hB4 := hB3.trans (hC.mono hz3)
          have hz4 := hB4.size
          clear hC hB3 hz3
          go_wp2_with fail
          refine (whole3_at L_b C2 WB).mono ?_
          rintro e' W5 ⟨rfl, hC⟩
          have hB5 := hB4.trans (hC.mono hz4)
          have hz5 := hB5.size
          clear hC hB4 hz4
          go_wp2_with fail
          refine (abs3_at L_b R_ab).mono ?_
          rintro e' w' ⟨rfl, hw⟩
          subst w'
          go_wp2_with fail
          refine (less3_at L_ab (Lib.hid (by decide)) LB).mono ?_
          rintro e' w' ⟨rfl, hw⟩
          subst w'
          go_wp2_with fail
          refine (rtoint_at L_b HN).mono ?_
          rintro e' w' ⟨rfl, hw⟩
          subst w'
          go_wp2
          go_ret
          exact ⟨by rw [HE.out]; try rfl, hB5⟩
    · have HE : Hid (powP a b = 1065353216) := Lib.hid (by rw [HP.out, if_pos ⟨HA.out, rfl⟩])
      go_enter Tryz.func12, Tryz.ntmps12
      have hB0 := Below.refl w.heap.size w
      have hz0 := hB0.size
      go_wp2_with fail
      refine (abs3_at L_b R_ab).mono ?_
      rintro e' w' ⟨rfl, hw⟩
      subst w'
      go_wp2_with fail
      refine (rnone_at L_a C1).mono ?_
      rintro e' w' ⟨rfl, hw⟩
      subst w'
      go_wp2_with fail
      refine (rnone_at L_b C2).mono ?_
      rintro e' w' ⟨rfl, hw⟩
      subst w'
      go_wp2_with fail
      refine (abs3_at L_b R_ab).mono ?_
      rintro e' w' ⟨rfl, hw⟩
      subst w'
      go_wp2
      go_ret
      exact ⟨by rw [HE.out]; try rfl, hB0⟩
  · have ba : ((a : Int) == 3212836864) = false := int_ne ha
    have HA := Lib.hid ha
    clear ha
    cases l
    · cases sg
      case false =>
        cases wb
        case false =>
          have HE : Hid (powP a b = y) := Lib.hid (by rw [HP.out, if_neg (fun h => HA.out h.1), if_neg (fun h => by cases h.1), if_neg (by rw [HSG.out]; simp)])
          go_enter Tryz.func12, Tryz.ntmps12
          have hB0 := Below.refl w.heap.size w
          have hz0 := hB0.size
          go_wp2_with fail
          refine (abs3_at L_b R_ab).mono ?_
          rintro e' w' ⟨rfl, hw⟩
          subst w'
          go_wp2_with fail
          refine (rnone_at L_a C1).mono ?_
          rintro e' w' ⟨rfl, hw⟩
          subst w'
          go_wp2_with fail
          refine (rnone_at L_b C2).mono ?_
          rintro e' w' ⟨rfl, hw⟩
          subst w'
          go_wp2_with fail
          refine (less3_at L_a (Lib.hid (by decide)) LL).mono ?_
          rintro e' w' ⟨rfl, hw⟩
          subst w'
          go_wp2_with fail
          refine (abs3_at L_a R_aa).mono ?_
          rintro e' w' ⟨rfl, hw⟩
          subst w'
          go_wp2_with fail
          refine (log3_at L_aa R_lg).mono ?_
          rintro e' W1 ⟨rfl, hC⟩
          have hB1 := hB0.trans (hC.mono hz0)
          have hz1 := hB1.size
          clear hC hB0 hz0
          go_wp2_with fail
          refine (mul3_at L_b L_lg R_bl).mono ?_
          rintro e' W2 ⟨rfl, hC⟩
          have hB2 := hB1.trans (hC.mono hz1)
          have hz2 := hB2.size
          clear hC hB1 hz1
          go_wp2_with fail
          refine (exp3_at L_bl R_y).mono ?_
          rintro e' W3 ⟨rfl, hC⟩
          have hB3 := hB2.trans (hC.mono hz2)
          have hz3 := hB3.size
          clear hC hB2 hz2
          go_wp2_with fail
          refine (whole3_at L_b C2 WB).mono ?_
          rintro e' W4 ⟨rfl, hC⟩
          have hB4 := hB3.trans (hC.mono hz3)
          have hz4 := hB4.size
          clear hC hB3 hz3
          go_wp2
          go_ret
          exact ⟨by rw [HE.out]; try rfl, hB4⟩
        cases lb
        case false =>
          have HE : Hid (powP a b = y) := Lib.hid (by rw [HP.out, if_neg (fun h => HA.out h.1), if_neg (fun h => by cases h.1), if_neg (by rw [HSG.out]; simp)])
          go_enter Tryz.func12, Tryz.ntmps12
          have hB0 := Below.refl w.heap.size w
          have hz0 := hB0.size
          go_wp2_with fail
          refine (abs3_at L_b R_ab).mono ?_
          rintro e' w' ⟨rfl, hw⟩
          subst w'
          go_wp2_with fail
          refine (rnone_at L_a C1).mono ?_
          rintro e' w' ⟨rfl, hw⟩
          subst w'
          go_wp2_with fail
          refine (rnone_at L_b C2).mono ?_
          rintro e' w' ⟨rfl, hw⟩
          subst w'
          go_wp2_with fail
          refine (less3_at L_a (Lib.hid (by decide)) LL).mono ?_
          rintro e' w' ⟨rfl, hw⟩
          subst w'
          go_wp2_with fail
          refine (abs3_at L_a R_aa).mono ?_
          rintro e' w' ⟨rfl, hw⟩
          subst w'
          go_wp2_with fail
          refine (log3_at L_aa R_lg).mono ?_
          rintro e' W1 ⟨rfl, hC⟩
          have hB1 := hB0.trans (hC.mono hz0)
          have hz1 := hB1.size
          clear hC hB0 hz0
          go_wp2_with fail
          refine (mul3_at L_b L_lg R_bl).mono ?_
          rintro e' W2 ⟨rfl, hC⟩
          have hB2 := hB1.trans (hC.mono hz1)
          have hz2 := hB2.size
          clear hC hB1 hz1
          go_wp2_with fail
          refine (exp3_at L_bl R_y).mono ?_
          rintro e' W3 ⟨rfl, hC⟩
          have hB3 := hB2.trans (hC.mono hz2)
          have hz3 := hB3.size
          clear hC hB2 hz2
          go_wp2_with fail
          refine (whole3_at L_b C2 WB).mono ?_
          rintro e' W4 ⟨rfl, hC⟩
          have hB4 := hB3.trans (hC.mono hz3)
          have hz4 := hB4.size
          clear hC hB3 hz3
          go_wp2_with fail
          refine (abs3_at L_b R_ab).mono ?_
          rintro e' w' ⟨rfl, hw⟩
          subst w'
          go_wp2_with fail
          refine (less3_at L_ab (Lib.hid (by decide)) LB).mono ?_
          rintro e' w' ⟨rfl, hw⟩
          subst w'
          go_wp2
          go_ret
          exact ⟨by rw [HE.out]; try rfl, hB4⟩
        obtain ⟨od, hod⟩ : ∃ v, decide (n % 2 = 1) = v := ⟨_, rfl⟩
        rw [hod] at hodd
        have HE : Hid (powP a b = y) := Lib.hid (by rw [HP.out, if_neg (fun h => HA.out h.1), if_neg (fun h => by cases h.1), if_neg (by rw [HSG.out]; simp)])
        clear hod
        cases od
        · go_enter Tryz.func12, Tryz.ntmps12
          have hB0 := Below.refl w.heap.size w
          have hz0 := hB0.size
          go_wp2_with fail
          refine (abs3_at L_b R_ab).mono ?_
          rintro e' w' ⟨rfl, hw⟩
          subst w'
          go_wp2_with fail
          refine (rnone_at L_a C1).mono ?_
          rintro e' w' ⟨rfl, hw⟩
          subst w'
          go_wp2_with fail
          refine (rnone_at L_b C2).mono ?_
          rintro e' w' ⟨rfl, hw⟩
          subst w'
          go_wp2_with fail
          refine (less3_at L_a (Lib.hid (by decide)) LL).mono ?_
          rintro e' w' ⟨rfl, hw⟩
          subst w'
          go_wp2_with fail
          refine (abs3_at L_a R_aa).mono ?_
          rintro e' w' ⟨rfl, hw⟩
          subst w'
          go_wp2_with fail
          refine (log3_at L_aa R_lg).mono ?_
          rintro e' W1 ⟨rfl, hC⟩
          have hB1 := hB0.trans (hC.mono hz0)
          have hz1 := hB1.size
          clear hC hB0 hz0
          go_wp2_with fail
          refine (mul3_at L_b L_lg R_bl).mono ?_
          rintro e' W2 ⟨rfl, hC⟩
          have hB2 := hB1.trans (hC.mono hz1)
          have hz2 := hB2.size
          clear hC hB1 hz1
          go_wp2_with fail
          refine (exp3_at L_bl R_y).mono ?_
          rintro e' W3 ⟨rfl, hC⟩
          have hB3 := hB2.trans (hC.mono hz2)
          have hz3 := hB3.size
          clear hC hB2 hz2
          go_wp2_with fail
          refine (whole3_at L_b C2 WB).mono ?_
          rintro e' W4 ⟨rfl, hC⟩
          have hB4 := hB3.trans (hC.mono hz3)
          have hz4 := hB4.size
          clear hC hB3 hz3
          go_wp2_with fail
          refine (abs3_at L_b R_ab).mono ?_
          rintro e' w' ⟨rfl, hw⟩
          subst w'
          go_wp2_with fail
          refine (less3_at L_ab (Lib.hid (by decide)) LB).mono ?_
          rintro e' w' ⟨rfl, hw⟩
          subst w'
          go_wp2_with fail
          refine (rtoint_at L_b HN).mono ?_
          rintro e' w' ⟨rfl, hw⟩
          subst w'
          go_wp2
          go_ret
          exact ⟨by rw [HE.out]; try rfl, hB4⟩
        · go_enter Tryz.func12, Tryz.ntmps12
          have hB0 := Below.refl w.heap.size w
          have hz0 := hB0.size
          go_wp2_with fail
          refine (abs3_at L_b R_ab).mono ?_
          rintro e' w' ⟨rfl, hw⟩
          subst w'
          go_wp2_with fail
          refine (rnone_at L_a C1).mono ?_
          rintro e' w' ⟨rfl, hw⟩
          subst w'
          go_wp2_with fail
          refine (rnone_at L_b C2).mono ?_
          rintro e' w' ⟨rfl, hw⟩
          subst w'
          go_wp2_with fail
          refine (less3_at L_a (Lib.hid (by decide)) LL).mono ?_
          rintro e' w' ⟨rfl, hw⟩
          subst w'
          go_wp2_with fail
          refine (abs3_at L_a R_aa).mono ?_
          rintro e' w' ⟨rfl, hw⟩
          subst w'
          go_wp2_with fail
          refine (log3_at L_aa R_lg).mono ?_
          rintro e' W1 ⟨rfl, hC⟩
          have hB1 := hB0.trans (hC.mono hz0)
          have hz1 := hB1.size
          clear hC hB0 hz0
          go_wp2_with fail
          refine (mul3_at L_b L_lg R_bl).mono ?_
          rintro e' W2 ⟨rfl, hC⟩
          have hB2 := hB1.trans (hC.mono hz1)
          have hz2 := hB2.size
          clear hC hB1 hz1
          go_wp2_with fail
          refine (exp3_at L_bl R_y).mono ?_
          rintro e' W3 ⟨rfl, hC⟩
          have hB3 := hB2.trans (hC.mono hz2)
          have hz3 := hB3.size
          clear hC hB2 hz2
          go_wp2_with fail
          refine (whole3_at L_b C2 WB).mono ?_
          rintro e' W4 ⟨rfl, hC⟩
          have hB4 := hB3.trans (hC.mono hz3)
          have hz4 := hB4.size
          clear hC hB3 hz3
          go_wp2_with fail
          refine (abs3_at L_b R_ab).mono ?_
          rintro e' w' ⟨rfl, hw⟩
          subst w'
          go_wp2_with fail
          refine (less3_at L_ab (Lib.hid (by decide)) LB).mono ?_
          rintro e' w' ⟨rfl, hw⟩
          subst w'
          go_wp2_with fail
          refine (rtoint_at L_b HN).mono ?_
          rintro e' w' ⟨rfl, hw⟩
          subst w'
          go_wp2
          go_ret
          exact ⟨by rw [HE.out]; try rfl, hB4⟩
      cases wb
      case false =>
        have HE : Hid (powP a b = y) := Lib.hid (by rw [HP.out, if_neg (fun h => HA.out h.1), if_neg (fun h => by cases h.1), if_neg (by simp)])
        go_enter Tryz.func12, Tryz.ntmps12
        have hB0 := Below.refl w.heap.size w
        have hz0 := hB0.size
        go_wp2_with fail
        refine (abs3_at L_b R_ab).mono ?_
        rintro e' w' ⟨rfl, hw⟩
        subst w'
        go_wp2_with fail
        refine (rnone_at L_a C1).mono ?_
        rintro e' w' ⟨rfl, hw⟩
        subst w'
        go_wp2_with fail
        refine (rnone_at L_b C2).mono ?_
        rintro e' w' ⟨rfl, hw⟩
        subst w'
        go_wp2_with fail
        refine (less3_at L_a (Lib.hid (by decide)) LL).mono ?_
        rintro e' w' ⟨rfl, hw⟩
        subst w'
        go_wp2_with fail
        refine (abs3_at L_a R_aa).mono ?_
        rintro e' w' ⟨rfl, hw⟩
        subst w'
        go_wp2_with fail
        refine (log3_at L_aa R_lg).mono ?_
        rintro e' W1 ⟨rfl, hC⟩
        have hB1 := hB0.trans (hC.mono hz0)
        have hz1 := hB1.size
        clear hC hB0 hz0
        go_wp2_with fail
        refine (mul3_at L_b L_lg R_bl).mono ?_
        rintro e' W2 ⟨rfl, hC⟩
        have hB2 := hB1.trans (hC.mono hz1)
        have hz2 := hB2.size
        clear hC hB1 hz1
        go_wp2_with fail
        refine (exp3_at L_bl R_y).mono ?_
        rintro e' W3 ⟨rfl, hC⟩
        have hB3 := hB2.trans (hC.mono hz2)
        have hz3 := hB3.size
        clear hC hB2 hz2
        go_wp2_with fail
        refine (whole3_at L_b C2 WB).mono ?_
        rintro e' W4 ⟨rfl, hC⟩
        have hB4 := hB3.trans (hC.mono hz3)
        have hz4 := hB4.size
        clear hC hB3 hz3
        go_wp2
        go_ret
        exact ⟨by rw [HE.out]; try rfl, hB4⟩
      cases lb
      case false =>
        have HE : Hid (powP a b = y) := Lib.hid (by rw [HP.out, if_neg (fun h => HA.out h.1), if_neg (fun h => by cases h.1), if_neg (by simp)])
        go_enter Tryz.func12, Tryz.ntmps12
        have hB0 := Below.refl w.heap.size w
        have hz0 := hB0.size
        go_wp2_with fail
        refine (abs3_at L_b R_ab).mono ?_
        rintro e' w' ⟨rfl, hw⟩
        subst w'
        go_wp2_with fail
        refine (rnone_at L_a C1).mono ?_
        rintro e' w' ⟨rfl, hw⟩
        subst w'
        go_wp2_with fail
        refine (rnone_at L_b C2).mono ?_
        rintro e' w' ⟨rfl, hw⟩
        subst w'
        go_wp2_with fail
        refine (less3_at L_a (Lib.hid (by decide)) LL).mono ?_
        rintro e' w' ⟨rfl, hw⟩
        subst w'
        go_wp2_with fail
        refine (abs3_at L_a R_aa).mono ?_
        rintro e' w' ⟨rfl, hw⟩
        subst w'
        go_wp2_with fail
        refine (log3_at L_aa R_lg).mono ?_
        rintro e' W1 ⟨rfl, hC⟩
        have hB1 := hB0.trans (hC.mono hz0)
        have hz1 := hB1.size
        clear hC hB0 hz0
        go_wp2_with fail
        refine (mul3_at L_b L_lg R_bl).mono ?_
        rintro e' W2 ⟨rfl, hC⟩
        have hB2 := hB1.trans (hC.mono hz1)
        have hz2 := hB2.size
        clear hC hB1 hz1
        go_wp2_with fail
        refine (exp3_at L_bl R_y).mono ?_
        rintro e' W3 ⟨rfl, hC⟩
        have hB3 := hB2.trans (hC.mono hz2)
        have hz3 := hB3.size
        clear hC hB2 hz2
        go_wp2_with fail
        refine (whole3_at L_b C2 WB).mono ?_
        rintro e' W4 ⟨rfl, hC⟩
        have hB4 := hB3.trans (hC.mono hz3)
        have hz4 := hB4.size
        clear hC hB3 hz3
        go_wp2_with fail
        refine (abs3_at L_b R_ab).mono ?_
        rintro e' w' ⟨rfl, hw⟩
        subst w'
        go_wp2_with fail
        refine (less3_at L_ab (Lib.hid (by decide)) LB).mono ?_
        rintro e' w' ⟨rfl, hw⟩
        subst w'
        go_wp2
        go_ret
        exact ⟨by rw [HE.out]; try rfl, hB4⟩
      by_cases ho : n % 2 = 1
      · rw [decide_eq_true ho] at hodd
        have HE : Hid (powP a b = ny) := Lib.hid (by rw [HP.out, if_neg (fun h => HA.out h.1), if_neg (fun h => by cases h.1), if_pos ⟨HSG.out.2 rfl, rfl, rfl, ho⟩])
        clear ho
        go_enter Tryz.func12, Tryz.ntmps12
        have hB0 := Below.refl w.heap.size w
        have hz0 := hB0.size
        go_wp2_with fail
        refine (abs3_at L_b R_ab).mono ?_
        rintro e' w' ⟨rfl, hw⟩
        subst w'
        go_wp2_with fail
        refine (rnone_at L_a C1).mono ?_
        rintro e' w' ⟨rfl, hw⟩
        subst w'
        go_wp2_with fail
        refine (rnone_at L_b C2).mono ?_
        rintro e' w' ⟨rfl, hw⟩
        subst w'
        go_wp2_with fail
        refine (less3_at L_a (Lib.hid (by decide)) LL).mono ?_
        rintro e' w' ⟨rfl, hw⟩
        subst w'
        go_wp2_with fail
        refine (abs3_at L_a R_aa).mono ?_
        rintro e' w' ⟨rfl, hw⟩
        subst w'
        go_wp2_with fail
        refine (log3_at L_aa R_lg).mono ?_
        rintro e' W1 ⟨rfl, hC⟩
        have hB1 := hB0.trans (hC.mono hz0)
        have hz1 := hB1.size
        clear hC hB0 hz0
        go_wp2_with fail
        refine (mul3_at L_b L_lg R_bl).mono ?_
        rintro e' W2 ⟨rfl, hC⟩
        have hB2 := hB1.trans (hC.mono hz1)
        have hz2 := hB2.size
        clear hC hB1 hz1
        go_wp2_with fail
        refine (exp3_at L_bl R_y).mono ?_
        rintro e' W3 ⟨rfl, hC⟩
        have hB3 := hB2.trans (hC.mono hz2)
        have hz3 := hB3.size
        clear hC hB2 hz2
        go_wp2_with fail
        refine (whole3_at L_b C2 WB).mono ?_
        rintro e' W4 ⟨rfl, hC⟩
        have hB4 := hB3.trans (hC.mono hz3)
        have hz4 := hB4.size
        clear hC hB3 hz3
        go_wp2_with fail
        refine (abs3_at L_b R_ab).mono ?_
        rintro e' w' ⟨rfl, hw⟩
        subst w'
        go_wp2_with fail
        refine (less3_at L_ab (Lib.hid (by decide)) LB).mono ?_
        rintro e' w' ⟨rfl, hw⟩
        subst w'
        go_wp2_with fail
        refine (rtoint_at L_b HN).mono ?_
        rintro e' w' ⟨rfl, hw⟩
        subst w'
        go_wp2_with fail
        refine (neg3_at L_y R_ny).mono ?_
        rintro e' w' ⟨rfl, hw⟩
        subst w'
        go_wp2
        go_ret
        exact ⟨by rw [HE.out]; try rfl, hB4⟩
      · rw [decide_eq_false ho] at hodd
        have HE : Hid (powP a b = y) := Lib.hid (by rw [HP.out, if_neg (fun h => HA.out h.1), if_neg (fun h => by cases h.1), if_neg (fun h => ho h.2.2.2)])
        clear ho
        go_enter Tryz.func12, Tryz.ntmps12
        have hB0 := Below.refl w.heap.size w
        have hz0 := hB0.size
        go_wp2_with fail
        refine (abs3_at L_b R_ab).mono ?_
        rintro e' w' ⟨rfl, hw⟩
        subst w'
        go_wp2_with fail
        refine (rnone_at L_a C1).mono ?_
        rintro e' w' ⟨rfl, hw⟩
        subst w'
        go_wp2_with fail
        refine (rnone_at L_b C2).mono ?_
        rintro e' w' ⟨rfl, hw⟩
        subst w'
        go_wp2_with fail
        refine (less3_at L_a (Lib.hid (by decide)) LL).mono ?_
        rintro e' w' ⟨rfl, hw⟩
        subst w'
        go_wp2_with fail
        refine (abs3_at L_a R_aa).mono ?_
        rintro e' w' ⟨rfl, hw⟩
        subst w'
        go_wp2_with fail
        refine (log3_at L_aa R_lg).mono ?_
        rintro e' W1 ⟨rfl, hC⟩
        have hB1 := hB0.trans (hC.mono hz0)
        have hz1 := hB1.size
        clear hC hB0 hz0
        go_wp2_with fail
        refine (mul3_at L_b L_lg R_bl).mono ?_
        rintro e' W2 ⟨rfl, hC⟩
        have hB2 := hB1.trans (hC.mono hz1)
        have hz2 := hB2.size
        clear hC hB1 hz1
        go_wp2_with fail
        refine (exp3_at L_bl R_y).mono ?_
        rintro e' W3 ⟨rfl, hC⟩
        have hB3 := hB2.trans (hC.mono hz2)
        have hz3 := hB3.size
        clear hC hB2 hz2
        go_wp2_with fail
        refine (whole3_at L_b C2 WB).mono ?_
        rintro e' W4 ⟨rfl, hC⟩
        have hB4 := hB3.trans (hC.mono hz3)
        have hz4 := hB4.size
        clear hC hB3 hz3
        go_wp2_with fail
        refine (abs3_at L_b R_ab).mono ?_
        rintro e' w' ⟨rfl, hw⟩
        subst w'
        go_wp2_with fail
        refine (less3_at L_ab (Lib.hid (by decide)) LB).mono ?_
        rintro e' w' ⟨rfl, hw⟩
        subst w'
        go_wp2_with fail
        refine (rtoint_at L_b HN).mono ?_
        rintro e' w' ⟨rfl, hw⟩
        subst w'
        go_wp2
        go_ret
        exact ⟨by rw [HE.out]; try rfl, hB4⟩
    · cases ib
      · have hbf2 : decide ((ab : Int) < 2139095040) = true := hbf
        clear hbf
        cases wb
        case false =>
          have HE : Hid (powP a b = 2143289344) := Lib.hid (by rw [HP.out, if_neg (fun h => HA.out h.1), if_pos ⟨rfl, rfl, rfl⟩])
          go_enter Tryz.func12, Tryz.ntmps12
          have hB0 := Below.refl w.heap.size w
          have hz0 := hB0.size
          go_wp2_with fail
          refine (abs3_at L_b R_ab).mono ?_
          rintro e' w' ⟨rfl, hw⟩
          subst w'
          go_wp2_with fail
          refine (rnone_at L_a C1).mono ?_
          rintro e' w' ⟨rfl, hw⟩
          subst w'
          go_wp2_with fail
          refine (rnone_at L_b C2).mono ?_
          rintro e' w' ⟨rfl, hw⟩
          subst w'
          go_wp2_with fail
          refine (less3_at L_a (Lib.hid (by decide)) LL).mono ?_
          rintro e' w' ⟨rfl, hw⟩
          subst w'
          go_wp2_with fail
          refine (abs3_at L_b R_ab).mono ?_
          rintro e' w' ⟨rfl, hw⟩
          subst w'
          go_wp2_with fail
          refine (whole3_at L_b C2 WB).mono ?_
          rintro e' W1 ⟨rfl, hC⟩
          have hB1 := hB0.trans (hC.mono hz0)
          have hz1 := hB1.size
          clear hC hB0 hz0
          go_wp2
          go_ret
          exact ⟨by rw [HE.out]; try rfl, hB1⟩
        cases sg
        case false =>
          cases lb
          case false =>
            have HE : Hid (powP a b = y) := Lib.hid (by rw [HP.out, if_neg (fun h => HA.out h.1), if_neg (fun h => by cases h.2.2), if_neg (by rw [HSG.out]; simp)])
            go_enter Tryz.func12, Tryz.ntmps12
            have hB0 := Below.refl w.heap.size w
            have hz0 := hB0.size
            go_wp2_with fail
            refine (abs3_at L_b R_ab).mono ?_
            rintro e' w' ⟨rfl, hw⟩
            subst w'
            go_wp2_with fail
            refine (rnone_at L_a C1).mono ?_
            rintro e' w' ⟨rfl, hw⟩
            subst w'
            go_wp2_with fail
            refine (rnone_at L_b C2).mono ?_
            rintro e' w' ⟨rfl, hw⟩
            subst w'
            go_wp2_with fail
            refine (less3_at L_a (Lib.hid (by decide)) LL).mono ?_
            rintro e' w' ⟨rfl, hw⟩
            subst w'
            go_wp2_with fail
            refine (abs3_at L_b R_ab).mono ?_
            rintro e' w' ⟨rfl, hw⟩
            subst w'
            go_wp2_with fail
            refine (whole3_at L_b C2 WB).mono ?_
            rintro e' W1 ⟨rfl, hC⟩
            have hB1 := hB0.trans (hC.mono hz0)
            have hz1 := hB1.size
            clear hC hB0 hz0
            go_wp2_with fail
            refine (abs3_at L_a R_aa).mono ?_
            rintro e' w' ⟨rfl, hw⟩
            subst w'
            go_wp2_with fail
            refine (log3_at L_aa R_lg).mono ?_
            rintro e' W2 ⟨rfl, hC⟩
            have hB2 := hB1.trans (hC.mono hz1)
            have hz2 := hB2.size
            clear hC hB1 hz1
            go_wp2_with fail
            refine (mul3_at L_b L_lg R_bl).mono ?_
            rintro e' W3 ⟨rfl, hC⟩
            have hB3 := hB2.trans (hC.mono hz2)
            have hz3 := hB3.size
            clear hC hB2 hz2
            go_wp2_with fail
            refine (exp3_at L_bl R_y).mono ?_
            rintro e' W4 ⟨rfl, hC⟩
            have hB4 := hB3.trans (hC.mono hz3)
            have hz4 := hB4.size
            clear hC hB3 hz3
            go_wp2_with fail
            refine (whole3_at L_b C2 WB).mono ?_
            rintro e' W5 ⟨rfl, hC⟩
            have hB5 := hB4.trans (hC.mono hz4)
            have hz5 := hB5.size
            clear hC hB4 hz4
            go_wp2_with fail
            refine (abs3_at L_b R_ab).mono ?_
            rintro e' w' ⟨rfl, hw⟩
            subst w'
            go_wp2_with fail
            refine (less3_at L_ab (Lib.hid (by decide)) LB).mono ?_
            rintro e' w' ⟨rfl, hw⟩
            subst w'
            go_wp2
            go_ret
            exact ⟨by rw [HE.out]; try rfl, hB5⟩
          obtain ⟨od, hod⟩ : ∃ v, decide (n % 2 = 1) = v := ⟨_, rfl⟩
          rw [hod] at hodd
          have HE : Hid (powP a b = y) := Lib.hid (by rw [HP.out, if_neg (fun h => HA.out h.1), if_neg (fun h => by cases h.2.2), if_neg (by rw [HSG.out]; simp)])
          clear hod
          cases od
          · go_enter Tryz.func12, Tryz.ntmps12
            have hB0 := Below.refl w.heap.size w
            have hz0 := hB0.size
            go_wp2_with fail
            refine (abs3_at L_b R_ab).mono ?_
            rintro e' w' ⟨rfl, hw⟩
            subst w'
            go_wp2_with fail
            refine (rnone_at L_a C1).mono ?_
            rintro e' w' ⟨rfl, hw⟩
            subst w'
            go_wp2_with fail
            refine (rnone_at L_b C2).mono ?_
            rintro e' w' ⟨rfl, hw⟩
            subst w'
            go_wp2_with fail
            refine (less3_at L_a (Lib.hid (by decide)) LL).mono ?_
            rintro e' w' ⟨rfl, hw⟩
            subst w'
            go_wp2_with fail
            refine (abs3_at L_b R_ab).mono ?_
            rintro e' w' ⟨rfl, hw⟩
            subst w'
            go_wp2_with fail
            refine (whole3_at L_b C2 WB).mono ?_
            rintro e' W1 ⟨rfl, hC⟩
            have hB1 := hB0.trans (hC.mono hz0)
            have hz1 := hB1.size
            clear hC hB0 hz0
            go_wp2_with fail
            refine (abs3_at L_a R_aa).mono ?_
            rintro e' w' ⟨rfl, hw⟩
            subst w'
            go_wp2_with fail
            refine (log3_at L_aa R_lg).mono ?_
            rintro e' W2 ⟨rfl, hC⟩
            have hB2 := hB1.trans (hC.mono hz1)
            have hz2 := hB2.size
            clear hC hB1 hz1
            go_wp2_with fail
            refine (mul3_at L_b L_lg R_bl).mono ?_
            rintro e' W3 ⟨rfl, hC⟩
            have hB3 := hB2.trans (hC.mono hz2)
            have hz3 := hB3.size
            clear hC hB2 hz2
            go_wp2_with fail
            refine (exp3_at L_bl R_y).mono ?_
            rintro e' W4 ⟨rfl, hC⟩
            have hB4 := hB3.trans (hC.mono hz3)
            have hz4 := hB4.size
            clear hC hB3 hz3
            go_wp2_with fail
            refine (whole3_at L_b C2 WB).mono ?_
            rintro e' W5 ⟨rfl, hC⟩
            have hB5 := hB4.trans (hC.mono hz4)
            have hz5 := hB5.size
            clear hC hB4 hz4
            go_wp2_with fail
            refine (abs3_at L_b R_ab).mono ?_
            rintro e' w' ⟨rfl, hw⟩
            subst w'
            go_wp2_with fail
            refine (less3_at L_ab (Lib.hid (by decide)) LB).mono ?_
            rintro e' w' ⟨rfl, hw⟩
            subst w'
            go_wp2_with fail
            refine (rtoint_at L_b HN).mono ?_
            rintro e' w' ⟨rfl, hw⟩
            subst w'
            go_wp2
            go_ret
            exact ⟨by rw [HE.out]; try rfl, hB5⟩
          · go_enter Tryz.func12, Tryz.ntmps12
            have hB0 := Below.refl w.heap.size w
            have hz0 := hB0.size
            go_wp2_with fail
            refine (abs3_at L_b R_ab).mono ?_
            rintro e' w' ⟨rfl, hw⟩
            subst w'
            go_wp2_with fail
            refine (rnone_at L_a C1).mono ?_
            rintro e' w' ⟨rfl, hw⟩
            subst w'
            go_wp2_with fail
            refine (rnone_at L_b C2).mono ?_
            rintro e' w' ⟨rfl, hw⟩
            subst w'
            go_wp2_with fail
            refine (less3_at L_a (Lib.hid (by decide)) LL).mono ?_
            rintro e' w' ⟨rfl, hw⟩
            subst w'
            go_wp2_with fail
            refine (abs3_at L_b R_ab).mono ?_
            rintro e' w' ⟨rfl, hw⟩
            subst w'
            go_wp2_with fail
            refine (whole3_at L_b C2 WB).mono ?_
            rintro e' W1 ⟨rfl, hC⟩
            have hB1 := hB0.trans (hC.mono hz0)
            have hz1 := hB1.size
            clear hC hB0 hz0
            go_wp2_with fail
            refine (abs3_at L_a R_aa).mono ?_
            rintro e' w' ⟨rfl, hw⟩
            subst w'
            go_wp2_with fail
            refine (log3_at L_aa R_lg).mono ?_
            rintro e' W2 ⟨rfl, hC⟩
            have hB2 := hB1.trans (hC.mono hz1)
            have hz2 := hB2.size
            clear hC hB1 hz1
            go_wp2_with fail
            refine (mul3_at L_b L_lg R_bl).mono ?_
            rintro e' W3 ⟨rfl, hC⟩
            have hB3 := hB2.trans (hC.mono hz2)
            have hz3 := hB3.size
            clear hC hB2 hz2
            go_wp2_with fail
            refine (exp3_at L_bl R_y).mono ?_
            rintro e' W4 ⟨rfl, hC⟩
            have hB4 := hB3.trans (hC.mono hz3)
            have hz4 := hB4.size
            clear hC hB3 hz3
            go_wp2_with fail
            refine (whole3_at L_b C2 WB).mono ?_
            rintro e' W5 ⟨rfl, hC⟩
            have hB5 := hB4.trans (hC.mono hz4)
            have hz5 := hB5.size
            clear hC hB4 hz4
            go_wp2_with fail
            refine (abs3_at L_b R_ab).mono ?_
            rintro e' w' ⟨rfl, hw⟩
            subst w'
            go_wp2_with fail
            refine (less3_at L_ab (Lib.hid (by decide)) LB).mono ?_
            rintro e' w' ⟨rfl, hw⟩
            subst w'
            go_wp2_with fail
            refine (rtoint_at L_b HN).mono ?_
            rintro e' w' ⟨rfl, hw⟩
            subst w'
            go_wp2
            go_ret
            exact ⟨by rw [HE.out]; try rfl, hB5⟩
        cases lb
        case false =>
          have HE : Hid (powP a b = y) := Lib.hid (by rw [HP.out, if_neg (fun h => HA.out h.1), if_neg (fun h => by cases h.2.2), if_neg (by simp)])
          go_enter Tryz.func12, Tryz.ntmps12
          have hB0 := Below.refl w.heap.size w
          have hz0 := hB0.size
          go_wp2_with fail
          refine (abs3_at L_b R_ab).mono ?_
          rintro e' w' ⟨rfl, hw⟩
          subst w'
          go_wp2_with fail
          refine (rnone_at L_a C1).mono ?_
          rintro e' w' ⟨rfl, hw⟩
          subst w'
          go_wp2_with fail
          refine (rnone_at L_b C2).mono ?_
          rintro e' w' ⟨rfl, hw⟩
          subst w'
          go_wp2_with fail
          refine (less3_at L_a (Lib.hid (by decide)) LL).mono ?_
          rintro e' w' ⟨rfl, hw⟩
          subst w'
          go_wp2_with fail
          refine (abs3_at L_b R_ab).mono ?_
          rintro e' w' ⟨rfl, hw⟩
          subst w'
          go_wp2_with fail
          refine (whole3_at L_b C2 WB).mono ?_
          rintro e' W1 ⟨rfl, hC⟩
          have hB1 := hB0.trans (hC.mono hz0)
          have hz1 := hB1.size
          clear hC hB0 hz0
          go_wp2_with fail
          refine (abs3_at L_a R_aa).mono ?_
          rintro e' w' ⟨rfl, hw⟩
          subst w'
          go_wp2_with fail
          refine (log3_at L_aa R_lg).mono ?_
          rintro e' W2 ⟨rfl, hC⟩
          have hB2 := hB1.trans (hC.mono hz1)
          have hz2 := hB2.size
          clear hC hB1 hz1
          go_wp2_with fail
          refine (mul3_at L_b L_lg R_bl).mono ?_
          rintro e' W3 ⟨rfl, hC⟩
          have hB3 := hB2.trans (hC.mono hz2)
          have hz3 := hB3.size
          clear hC hB2 hz2
          go_wp2_with fail
          refine (exp3_at L_bl R_y).mono ?_
          rintro e' W4 ⟨rfl, hC⟩
          have hB4 := hB3.trans (hC.mono hz3)
          have hz4 := hB4.size
          clear hC hB3 hz3
          go_wp2_with fail
          refine (whole3_at L_b C2 WB).mono ?_
          rintro e' W5 ⟨rfl, hC⟩
          have hB5 := hB4.trans (hC.mono hz4)
          have hz5 := hB5.size
          clear hC hB4 hz4
          go_wp2_with fail
          refine (abs3_at L_b R_ab).mono ?_
          rintro e' w' ⟨rfl, hw⟩
          subst w'
          go_wp2_with fail
          refine (less3_at L_ab (Lib.hid (by decide)) LB).mono ?_
          rintro e' w' ⟨rfl, hw⟩
          subst w'
          go_wp2
          go_ret
          exact ⟨by rw [HE.out]; try rfl, hB5⟩
        by_cases ho : n % 2 = 1
        · rw [decide_eq_true ho] at hodd
          have HE : Hid (powP a b = ny) := Lib.hid (by rw [HP.out, if_neg (fun h => HA.out h.1), if_neg (fun h => by cases h.2.2), if_pos ⟨HSG.out.2 rfl, rfl, rfl, ho⟩])
          clear ho
          go_enter Tryz.func12, Tryz.ntmps12
          have hB0 := Below.refl w.heap.size w
          have hz0 := hB0.size
          go_wp2_with fail
          refine (abs3_at L_b R_ab).mono ?_
          rintro e' w' ⟨rfl, hw⟩
          subst w'
          go_wp2_with fail
          refine (rnone_at L_a C1).mono ?_
          rintro e' w' ⟨rfl, hw⟩
          subst w'
          go_wp2_with fail
          refine (rnone_at L_b C2).mono ?_
          rintro e' w' ⟨rfl, hw⟩
          subst w'
          go_wp2_with fail
          refine (less3_at L_a (Lib.hid (by decide)) LL).mono ?_
          rintro e' w' ⟨rfl, hw⟩
          subst w'
          go_wp2_with fail
          refine (abs3_at L_b R_ab).mono ?_
          rintro e' w' ⟨rfl, hw⟩
          subst w'
          go_wp2_with fail
          refine (whole3_at L_b C2 WB).mono ?_
          rintro e' W1 ⟨rfl, hC⟩
          have hB1 := hB0.trans (hC.mono hz0)
          have hz1 := hB1.size
          clear hC hB0 hz0
          go_wp2_with fail
          refine (abs3_at L_a R_aa).mono ?_
          rintro e' w' ⟨rfl, hw⟩
          subst w'
          go_wp2_with fail
          refine (log3_at L_aa R_lg).mono ?_
          rintro e' W2 ⟨rfl, hC⟩
          have hB2 := hB1.trans (hC.mono hz1)
          have hz2 := hB2.size
          clear hC hB1 hz1
          go_wp2_with fail
          refine (mul3_at L_b L_lg R_bl).mono ?_
          rintro e' W3 ⟨rfl, hC⟩
          have hB3 := hB2.trans (hC.mono hz2)
          have hz3 := hB3.size
          clear hC hB2 hz2
          go_wp2_with fail
          refine (exp3_at L_bl R_y).mono ?_
          rintro e' W4 ⟨rfl, hC⟩
          have hB4 := hB3.trans (hC.mono hz3)
          have hz4 := hB4.size
          clear hC hB3 hz3
          go_wp2_with fail
          refine (whole3_at L_b C2 WB).mono ?_
          rintro e' W5 ⟨rfl, hC⟩
          have hB5 := hB4.trans (hC.mono hz4)
          have hz5 := hB5.size
          clear hC hB4 hz4
          go_wp2_with fail
          refine (abs3_at L_b R_ab).mono ?_
          rintro e' w' ⟨rfl, hw⟩
          subst w'
          go_wp2_with fail
          refine (less3_at L_ab (Lib.hid (by decide)) LB).mono ?_
          rintro e' w' ⟨rfl, hw⟩
          subst w'
          go_wp2_with fail
          refine (rtoint_at L_b HN).mono ?_
          rintro e' w' ⟨rfl, hw⟩
          subst w'
          go_wp2_with fail
          refine (neg3_at L_y R_ny).mono ?_
          rintro e' w' ⟨rfl, hw⟩
          subst w'
          go_wp2
          go_ret
          exact ⟨by rw [HE.out]; try rfl, hB5⟩
        · rw [decide_eq_false ho] at hodd
          have HE : Hid (powP a b = y) := Lib.hid (by rw [HP.out, if_neg (fun h => HA.out h.1), if_neg (fun h => by cases h.2.2), if_neg (fun h => ho h.2.2.2)])
          clear ho
          go_enter Tryz.func12, Tryz.ntmps12
          have hB0 := Below.refl w.heap.size w
          have hz0 := hB0.size
          go_wp2_with fail
          refine (abs3_at L_b R_ab).mono ?_
          rintro e' w' ⟨rfl, hw⟩
          subst w'
          go_wp2_with fail
          refine (rnone_at L_a C1).mono ?_
          rintro e' w' ⟨rfl, hw⟩
          subst w'
          go_wp2_with fail
          refine (rnone_at L_b C2).mono ?_
          rintro e' w' ⟨rfl, hw⟩
          subst w'
          go_wp2_with fail
          refine (less3_at L_a (Lib.hid (by decide)) LL).mono ?_
          rintro e' w' ⟨rfl, hw⟩
          subst w'
          go_wp2_with fail
          refine (abs3_at L_b R_ab).mono ?_
          rintro e' w' ⟨rfl, hw⟩
          subst w'
          go_wp2_with fail
          refine (whole3_at L_b C2 WB).mono ?_
          rintro e' W1 ⟨rfl, hC⟩
          have hB1 := hB0.trans (hC.mono hz0)
          have hz1 := hB1.size
          clear hC hB0 hz0
          go_wp2_with fail
          refine (abs3_at L_a R_aa).mono ?_
          rintro e' w' ⟨rfl, hw⟩
          subst w'
          go_wp2_with fail
          refine (log3_at L_aa R_lg).mono ?_
          rintro e' W2 ⟨rfl, hC⟩
          have hB2 := hB1.trans (hC.mono hz1)
          have hz2 := hB2.size
          clear hC hB1 hz1
          go_wp2_with fail
          refine (mul3_at L_b L_lg R_bl).mono ?_
          rintro e' W3 ⟨rfl, hC⟩
          have hB3 := hB2.trans (hC.mono hz2)
          have hz3 := hB3.size
          clear hC hB2 hz2
          go_wp2_with fail
          refine (exp3_at L_bl R_y).mono ?_
          rintro e' W4 ⟨rfl, hC⟩
          have hB4 := hB3.trans (hC.mono hz3)
          have hz4 := hB4.size
          clear hC hB3 hz3
          go_wp2_with fail
          refine (whole3_at L_b C2 WB).mono ?_
          rintro e' W5 ⟨rfl, hC⟩
          have hB5 := hB4.trans (hC.mono hz4)
          have hz5 := hB5.size
          clear hC hB4 hz4
          go_wp2_with fail
          refine (abs3_at L_b R_ab).mono ?_
          rintro e' w' ⟨rfl, hw⟩
          subst w'
          go_wp2_with fail
          refine (less3_at L_ab (Lib.hid (by decide)) LB).mono ?_
          rintro e' w' ⟨rfl, hw⟩
          subst w'
          go_wp2_with fail
          refine (rtoint_at L_b HN).mono ?_
          rintro e' w' ⟨rfl, hw⟩
          subst w'
          go_wp2
          go_ret
          exact ⟨by rw [HE.out]; try rfl, hB5⟩
      · have hbf2 : decide ((ab : Int) < 2139095040) = false := hbf
        clear hbf
        cases sg
        case false =>
          cases wb
          case false =>
            have HE : Hid (powP a b = y) := Lib.hid (by rw [HP.out, if_neg (fun h => HA.out h.1), if_neg (fun h => by cases h.2.1), if_neg (by rw [HSG.out]; simp)])
            go_enter Tryz.func12, Tryz.ntmps12
            have hB0 := Below.refl w.heap.size w
            have hz0 := hB0.size
            go_wp2_with fail
            refine (abs3_at L_b R_ab).mono ?_
            rintro e' w' ⟨rfl, hw⟩
            subst w'
            go_wp2_with fail
            refine (rnone_at L_a C1).mono ?_
            rintro e' w' ⟨rfl, hw⟩
            subst w'
            go_wp2_with fail
            refine (rnone_at L_b C2).mono ?_
            rintro e' w' ⟨rfl, hw⟩
            subst w'
            go_wp2_with fail
            refine (less3_at L_a (Lib.hid (by decide)) LL).mono ?_
            rintro e' w' ⟨rfl, hw⟩
            subst w'
            go_wp2_with fail
            refine (abs3_at L_b R_ab).mono ?_
            rintro e' w' ⟨rfl, hw⟩
            subst w'
            go_wp2_with fail
            refine (abs3_at L_a R_aa).mono ?_
            rintro e' w' ⟨rfl, hw⟩
            subst w'
            go_wp2_with fail
            refine (log3_at L_aa R_lg).mono ?_
            rintro e' W1 ⟨rfl, hC⟩
            have hB1 := hB0.trans (hC.mono hz0)
            have hz1 := hB1.size
            clear hC hB0 hz0
            go_wp2_with fail
            refine (mul3_at L_b L_lg R_bl).mono ?_
            rintro e' W2 ⟨rfl, hC⟩
            have hB2 := hB1.trans (hC.mono hz1)
            have hz2 := hB2.size
            clear hC hB1 hz1
            go_wp2_with fail
            refine (exp3_at L_bl R_y).mono ?_
            rintro e' W3 ⟨rfl, hC⟩
            have hB3 := hB2.trans (hC.mono hz2)
            have hz3 := hB3.size
            clear hC hB2 hz2
            go_wp2_with fail
            refine (whole3_at L_b C2 WB).mono ?_
            rintro e' W4 ⟨rfl, hC⟩
            have hB4 := hB3.trans (hC.mono hz3)
            have hz4 := hB4.size
            clear hC hB3 hz3
            go_wp2
            go_ret
            exact ⟨by rw [HE.out]; try rfl, hB4⟩
          cases lb
          case false =>
            have HE : Hid (powP a b = y) := Lib.hid (by rw [HP.out, if_neg (fun h => HA.out h.1), if_neg (fun h => by cases h.2.1), if_neg (by rw [HSG.out]; simp)])
            go_enter Tryz.func12, Tryz.ntmps12
            have hB0 := Below.refl w.heap.size w
            have hz0 := hB0.size
            go_wp2_with fail
            refine (abs3_at L_b R_ab).mono ?_
            rintro e' w' ⟨rfl, hw⟩
            subst w'
            go_wp2_with fail
            refine (rnone_at L_a C1).mono ?_
            rintro e' w' ⟨rfl, hw⟩
            subst w'
            go_wp2_with fail
            refine (rnone_at L_b C2).mono ?_
            rintro e' w' ⟨rfl, hw⟩
            subst w'
            go_wp2_with fail
            refine (less3_at L_a (Lib.hid (by decide)) LL).mono ?_
            rintro e' w' ⟨rfl, hw⟩
            subst w'
            go_wp2_with fail
            refine (abs3_at L_b R_ab).mono ?_
            rintro e' w' ⟨rfl, hw⟩
            subst w'
            go_wp2_with fail
            refine (abs3_at L_a R_aa).mono ?_
            rintro e' w' ⟨rfl, hw⟩
            subst w'
            go_wp2_with fail
            refine (log3_at L_aa R_lg).mono ?_
            rintro e' W1 ⟨rfl, hC⟩
            have hB1 := hB0.trans (hC.mono hz0)
            have hz1 := hB1.size
            clear hC hB0 hz0
            go_wp2_with fail
            refine (mul3_at L_b L_lg R_bl).mono ?_
            rintro e' W2 ⟨rfl, hC⟩
            have hB2 := hB1.trans (hC.mono hz1)
            have hz2 := hB2.size
            clear hC hB1 hz1
            go_wp2_with fail
            refine (exp3_at L_bl R_y).mono ?_
            rintro e' W3 ⟨rfl, hC⟩
            have hB3 := hB2.trans (hC.mono hz2)
            have hz3 := hB3.size
            clear hC hB2 hz2
            go_wp2_with fail
            refine (whole3_at L_b C2 WB).mono ?_
            rintro e' W4 ⟨rfl, hC⟩
            have hB4 := hB3.trans (hC.mono hz3)
            have hz4 := hB4.size
            clear hC hB3 hz3
            go_wp2_with fail
            refine (abs3_at L_b R_ab).mono ?_
            rintro e' w' ⟨rfl, hw⟩
            subst w'
            go_wp2_with fail
            refine (less3_at L_ab (Lib.hid (by decide)) LB).mono ?_
            rintro e' w' ⟨rfl, hw⟩
            subst w'
            go_wp2
            go_ret
            exact ⟨by rw [HE.out]; try rfl, hB4⟩
          obtain ⟨od, hod⟩ : ∃ v, decide (n % 2 = 1) = v := ⟨_, rfl⟩
          rw [hod] at hodd
          have HE : Hid (powP a b = y) := Lib.hid (by rw [HP.out, if_neg (fun h => HA.out h.1), if_neg (fun h => by cases h.2.1), if_neg (by rw [HSG.out]; simp)])
          clear hod
          cases od
          · go_enter Tryz.func12, Tryz.ntmps12
            have hB0 := Below.refl w.heap.size w
            have hz0 := hB0.size
            go_wp2_with fail
            refine (abs3_at L_b R_ab).mono ?_
            rintro e' w' ⟨rfl, hw⟩
            subst w'
            go_wp2_with fail
            refine (rnone_at L_a C1).mono ?_
            rintro e' w' ⟨rfl, hw⟩
            subst w'
            go_wp2_with fail
            refine (rnone_at L_b C2).mono ?_
            rintro e' w' ⟨rfl, hw⟩
            subst w'
            go_wp2_with fail
            refine (less3_at L_a (Lib.hid (by decide)) LL).mono ?_
            rintro e' w' ⟨rfl, hw⟩
            subst w'
            go_wp2_with fail
            refine (abs3_at L_b R_ab).mono ?_
            rintro e' w' ⟨rfl, hw⟩
            subst w'
            go_wp2_with fail
            refine (abs3_at L_a R_aa).mono ?_
            rintro e' w' ⟨rfl, hw⟩
            subst w'
            go_wp2_with fail
            refine (log3_at L_aa R_lg).mono ?_
            rintro e' W1 ⟨rfl, hC⟩
            have hB1 := hB0.trans (hC.mono hz0)
            have hz1 := hB1.size
            clear hC hB0 hz0
            go_wp2_with fail
            refine (mul3_at L_b L_lg R_bl).mono ?_
            rintro e' W2 ⟨rfl, hC⟩
            have hB2 := hB1.trans (hC.mono hz1)
            have hz2 := hB2.size
            clear hC hB1 hz1
            go_wp2_with fail
            refine (exp3_at L_bl R_y).mono ?_
            rintro e' W3 ⟨rfl, hC⟩
            have hB3 := hB2.trans (hC.mono hz2)
            have hz3 := hB3.size
            clear hC hB2 hz2
            go_wp2_with fail
            refine (whole3_at L_b C2 WB).mono ?_
            rintro e' W4 ⟨rfl, hC⟩
            have hB4 := hB3.trans (hC.mono hz3)
            have hz4 := hB4.size
            clear hC hB3 hz3
            go_wp2_with fail
            refine (abs3_at L_b R_ab).mono ?_
            rintro e' w' ⟨rfl, hw⟩
            subst w'
            go_wp2_with fail
            refine (less3_at L_ab (Lib.hid (by decide)) LB).mono ?_
            rintro e' w' ⟨rfl, hw⟩
            subst w'
            go_wp2_with fail
            refine (rtoint_at L_b HN).mono ?_
            rintro e' w' ⟨rfl, hw⟩
            subst w'
            go_wp2
            go_ret
            exact ⟨by rw [HE.out]; try rfl, hB4⟩
          · go_enter Tryz.func12, Tryz.ntmps12
            have hB0 := Below.refl w.heap.size w
            have hz0 := hB0.size
            go_wp2_with fail
            refine (abs3_at L_b R_ab).mono ?_
            rintro e' w' ⟨rfl, hw⟩
            subst w'
            go_wp2_with fail
            refine (rnone_at L_a C1).mono ?_
            rintro e' w' ⟨rfl, hw⟩
            subst w'
            go_wp2_with fail
            refine (rnone_at L_b C2).mono ?_
            rintro e' w' ⟨rfl, hw⟩
            subst w'
            go_wp2_with fail
            refine (less3_at L_a (Lib.hid (by decide)) LL).mono ?_
            rintro e' w' ⟨rfl, hw⟩
            subst w'
            go_wp2_with fail
            refine (abs3_at L_b R_ab).mono ?_
            rintro e' w' ⟨rfl, hw⟩
            subst w'
            go_wp2_with fail
            refine (abs3_at L_a R_aa).mono ?_
            rintro e' w' ⟨rfl, hw⟩
            subst w'
            go_wp2_with fail
            refine (log3_at L_aa R_lg).mono ?_
            rintro e' W1 ⟨rfl, hC⟩
            have hB1 := hB0.trans (hC.mono hz0)
            have hz1 := hB1.size
            clear hC hB0 hz0
            go_wp2_with fail
            refine (mul3_at L_b L_lg R_bl).mono ?_
            rintro e' W2 ⟨rfl, hC⟩
            have hB2 := hB1.trans (hC.mono hz1)
            have hz2 := hB2.size
            clear hC hB1 hz1
            go_wp2_with fail
            refine (exp3_at L_bl R_y).mono ?_
            rintro e' W3 ⟨rfl, hC⟩
            have hB3 := hB2.trans (hC.mono hz2)
            have hz3 := hB3.size
            clear hC hB2 hz2
            go_wp2_with fail
            refine (whole3_at L_b C2 WB).mono ?_
            rintro e' W4 ⟨rfl, hC⟩
            have hB4 := hB3.trans (hC.mono hz3)
            have hz4 := hB4.size
            clear hC hB3 hz3
            go_wp2_with fail
            refine (abs3_at L_b R_ab).mono ?_
            rintro e' w' ⟨rfl, hw⟩
            subst w'
            go_wp2_with fail
            refine (less3_at L_ab (Lib.hid (by decide)) LB).mono ?_
            rintro e' w' ⟨rfl, hw⟩
            subst w'
            go_wp2_with fail
            refine (rtoint_at L_b HN).mono ?_
            rintro e' w' ⟨rfl, hw⟩
            subst w'
            go_wp2
            go_ret
            exact ⟨by rw [HE.out]; try rfl, hB4⟩
        cases wb
        case false =>
          have HE : Hid (powP a b = y) := Lib.hid (by rw [HP.out, if_neg (fun h => HA.out h.1), if_neg (fun h => by cases h.2.1), if_neg (by simp)])
          go_enter Tryz.func12, Tryz.ntmps12
          have hB0 := Below.refl w.heap.size w
          have hz0 := hB0.size
          go_wp2_with fail
          refine (abs3_at L_b R_ab).mono ?_
          rintro e' w' ⟨rfl, hw⟩
          subst w'
          go_wp2_with fail
          refine (rnone_at L_a C1).mono ?_
          rintro e' w' ⟨rfl, hw⟩
          subst w'
          go_wp2_with fail
          refine (rnone_at L_b C2).mono ?_
          rintro e' w' ⟨rfl, hw⟩
          subst w'
          go_wp2_with fail
          refine (less3_at L_a (Lib.hid (by decide)) LL).mono ?_
          rintro e' w' ⟨rfl, hw⟩
          subst w'
          go_wp2_with fail
          refine (abs3_at L_b R_ab).mono ?_
          rintro e' w' ⟨rfl, hw⟩
          subst w'
          go_wp2_with fail
          refine (abs3_at L_a R_aa).mono ?_
          rintro e' w' ⟨rfl, hw⟩
          subst w'
          go_wp2_with fail
          refine (log3_at L_aa R_lg).mono ?_
          rintro e' W1 ⟨rfl, hC⟩
          have hB1 := hB0.trans (hC.mono hz0)
          have hz1 := hB1.size
          clear hC hB0 hz0
          go_wp2_with fail
          refine (mul3_at L_b L_lg R_bl).mono ?_
          rintro e' W2 ⟨rfl, hC⟩
          have hB2 := hB1.trans (hC.mono hz1)
          have hz2 := hB2.size
          clear hC hB1 hz1
          go_wp2_with fail
          refine (exp3_at L_bl R_y).mono ?_
          rintro e' W3 ⟨rfl, hC⟩
          have hB3 := hB2.trans (hC.mono hz2)
          have hz3 := hB3.size
          clear hC hB2 hz2
          go_wp2_with fail
          refine (whole3_at L_b C2 WB).mono ?_
          rintro e' W4 ⟨rfl, hC⟩
          have hB4 := hB3.trans (hC.mono hz3)
          have hz4 := hB4.size
          clear hC hB3 hz3
          go_wp2
          go_ret
          exact ⟨by rw [HE.out]; try rfl, hB4⟩
        cases lb
        case false =>
          have HE : Hid (powP a b = y) := Lib.hid (by rw [HP.out, if_neg (fun h => HA.out h.1), if_neg (fun h => by cases h.2.1), if_neg (by simp)])
          go_enter Tryz.func12, Tryz.ntmps12
          have hB0 := Below.refl w.heap.size w
          have hz0 := hB0.size
          go_wp2_with fail
          refine (abs3_at L_b R_ab).mono ?_
          rintro e' w' ⟨rfl, hw⟩
          subst w'
          go_wp2_with fail
          refine (rnone_at L_a C1).mono ?_
          rintro e' w' ⟨rfl, hw⟩
          subst w'
          go_wp2_with fail
          refine (rnone_at L_b C2).mono ?_
          rintro e' w' ⟨rfl, hw⟩
          subst w'
          go_wp2_with fail
          refine (less3_at L_a (Lib.hid (by decide)) LL).mono ?_
          rintro e' w' ⟨rfl, hw⟩
          subst w'
          go_wp2_with fail
          refine (abs3_at L_b R_ab).mono ?_
          rintro e' w' ⟨rfl, hw⟩
          subst w'
          go_wp2_with fail
          refine (abs3_at L_a R_aa).mono ?_
          rintro e' w' ⟨rfl, hw⟩
          subst w'
          go_wp2_with fail
          refine (log3_at L_aa R_lg).mono ?_
          rintro e' W1 ⟨rfl, hC⟩
          have hB1 := hB0.trans (hC.mono hz0)
          have hz1 := hB1.size
          clear hC hB0 hz0
          go_wp2_with fail
          refine (mul3_at L_b L_lg R_bl).mono ?_
          rintro e' W2 ⟨rfl, hC⟩
          have hB2 := hB1.trans (hC.mono hz1)
          have hz2 := hB2.size
          clear hC hB1 hz1
          go_wp2_with fail
          refine (exp3_at L_bl R_y).mono ?_
          rintro e' W3 ⟨rfl, hC⟩
          have hB3 := hB2.trans (hC.mono hz2)
          have hz3 := hB3.size
          clear hC hB2 hz2
          go_wp2_with fail
          refine (whole3_at L_b C2 WB).mono ?_
          rintro e' W4 ⟨rfl, hC⟩
          have hB4 := hB3.trans (hC.mono hz3)
          have hz4 := hB4.size
          clear hC hB3 hz3
          go_wp2_with fail
          refine (abs3_at L_b R_ab).mono ?_
          rintro e' w' ⟨rfl, hw⟩
          subst w'
          go_wp2_with fail
          refine (less3_at L_ab (Lib.hid (by decide)) LB).mono ?_
          rintro e' w' ⟨rfl, hw⟩
          subst w'
          go_wp2
          go_ret
          exact ⟨by rw [HE.out]; try rfl, hB4⟩
        by_cases ho : n % 2 = 1
        · rw [decide_eq_true ho] at hodd
          have HE : Hid (powP a b = ny) := Lib.hid (by rw [HP.out, if_neg (fun h => HA.out h.1), if_neg (fun h => by cases h.2.1), if_pos ⟨HSG.out.2 rfl, rfl, rfl, ho⟩])
          clear ho
          go_enter Tryz.func12, Tryz.ntmps12
          have hB0 := Below.refl w.heap.size w
          have hz0 := hB0.size
          go_wp2_with fail
          refine (abs3_at L_b R_ab).mono ?_
          rintro e' w' ⟨rfl, hw⟩
          subst w'
          go_wp2_with fail
          refine (rnone_at L_a C1).mono ?_
          rintro e' w' ⟨rfl, hw⟩
          subst w'
          go_wp2_with fail
          refine (rnone_at L_b C2).mono ?_
          rintro e' w' ⟨rfl, hw⟩
          subst w'
          go_wp2_with fail
          refine (less3_at L_a (Lib.hid (by decide)) LL).mono ?_
          rintro e' w' ⟨rfl, hw⟩
          subst w'
          go_wp2_with fail
          refine (abs3_at L_b R_ab).mono ?_
          rintro e' w' ⟨rfl, hw⟩
          subst w'
          go_wp2_with fail
          refine (abs3_at L_a R_aa).mono ?_
          rintro e' w' ⟨rfl, hw⟩
          subst w'
          go_wp2_with fail
          refine (log3_at L_aa R_lg).mono ?_
          rintro e' W1 ⟨rfl, hC⟩
          have hB1 := hB0.trans (hC.mono hz0)
          have hz1 := hB1.size
          clear hC hB0 hz0
          go_wp2_with fail
          refine (mul3_at L_b L_lg R_bl).mono ?_
          rintro e' W2 ⟨rfl, hC⟩
          have hB2 := hB1.trans (hC.mono hz1)
          have hz2 := hB2.size
          clear hC hB1 hz1
          go_wp2_with fail
          refine (exp3_at L_bl R_y).mono ?_
          rintro e' W3 ⟨rfl, hC⟩
          have hB3 := hB2.trans (hC.mono hz2)
          have hz3 := hB3.size
          clear hC hB2 hz2
          go_wp2_with fail
          refine (whole3_at L_b C2 WB).mono ?_
          rintro e' W4 ⟨rfl, hC⟩
          have hB4 := hB3.trans (hC.mono hz3)
          have hz4 := hB4.size
          clear hC hB3 hz3
          go_wp2_with fail
          refine (abs3_at L_b R_ab).mono ?_
          rintro e' w' ⟨rfl, hw⟩
          subst w'
          go_wp2_with fail
          refine (less3_at L_ab (Lib.hid (by decide)) LB).mono ?_
          rintro e' w' ⟨rfl, hw⟩
          subst w'
          go_wp2_with fail
          refine (rtoint_at L_b HN).mono ?_
          rintro e' w' ⟨rfl, hw⟩
          subst w'
          go_wp2_with fail
          refine (neg3_at L_y R_ny).mono ?_
          rintro e' w' ⟨rfl, hw⟩
          subst w'
          go_wp2
          go_ret
          exact ⟨by rw [HE.out]; try rfl, hB4⟩
        · rw [decide_eq_false ho] at hodd
          have HE : Hid (powP a b = y) := Lib.hid (by rw [HP.out, if_neg (fun h => HA.out h.1), if_neg (fun h => by cases h.2.1), if_neg (fun h => ho h.2.2.2)])
          clear ho
          go_enter Tryz.func12, Tryz.ntmps12
          have hB0 := Below.refl w.heap.size w
          have hz0 := hB0.size
          go_wp2_with fail
          refine (abs3_at L_b R_ab).mono ?_
          rintro e' w' ⟨rfl, hw⟩
          subst w'
          go_wp2_with fail
          refine (rnone_at L_a C1).mono ?_
          rintro e' w' ⟨rfl, hw⟩
          subst w'
          go_wp2_with fail
          refine (rnone_at L_b C2).mono ?_
          rintro e' w' ⟨rfl, hw⟩
          subst w'
          go_wp2_with fail
          refine (less3_at L_a (Lib.hid (by decide)) LL).mono ?_
          rintro e' w' ⟨rfl, hw⟩
          subst w'
          go_wp2_with fail
          refine (abs3_at L_b R_ab).mono ?_
          rintro e' w' ⟨rfl, hw⟩
          subst w'
          go_wp2_with fail
          refine (abs3_at L_a R_aa).mono ?_
          rintro e' w' ⟨rfl, hw⟩
          subst w'
          go_wp2_with fail
          refine (log3_at L_aa R_lg).mono ?_
          rintro e' W1 ⟨rfl, hC⟩
          have hB1 := hB0.trans (hC.mono hz0)
          have hz1 := hB1.size
          clear hC hB0 hz0
          go_wp2_with fail
          refine (mul3_at L_b L_lg R_bl).mono ?_
          rintro e' W2 ⟨rfl, hC⟩
          have hB2 := hB1.trans (hC.mono hz1)
          have hz2 := hB2.size
          clear hC hB1 hz1
          go_wp2_with fail
          refine (exp3_at L_bl R_y).mono ?_
          rintro e' W3 ⟨rfl, hC⟩
          have hB3 := hB2.trans (hC.mono hz2)
          have hz3 := hB3.size
          clear hC hB2 hz2
          go_wp2_with fail
          refine (whole3_at L_b C2 WB).mono ?_
          rintro e' W4 ⟨rfl, hC⟩
          have hB4 := hB3.trans (hC.mono hz3)
          have hz4 := hB4.size
          clear hC hB3 hz3
          go_wp2_with fail
          refine (abs3_at L_b R_ab).mono ?_
          rintro e' w' ⟨rfl, hw⟩
          subst w'
          go_wp2_with fail
          refine (less3_at L_ab (Lib.hid (by decide)) LB).mono ?_
          rintro e' w' ⟨rfl, hw⟩
          subst w'
          go_wp2_with fail
          refine (rtoint_at L_b HN).mono ?_
          rintro e' w' ⟨rfl, hw⟩
          subst w'
          go_wp2
          go_ret
          exact ⟨by rw [HE.out]; try rfl, hB4⟩
end Go.Proofs.YtegeadkilolngaaGreat
