/- The contracts of whole and Pow of the program. -/
import Derived.Test.YtegeadkilolngaaElE
namespace Go.Proofs.Ytegeadkilolngaa
open Go.RowKit

/-- is it a whole number, and finite? -/
def wholeB (b : Nat) : Bool := !infP b && equalP (wholeP 2 b) b
theorem wholeB_at {b : Nat} {r : Bool} {w : World} (L_b : Hid (b < 4294967296)) (hr : Hid (wholeB b = r)) : Calls Try.prog 49 #[.int .u32 (b : Int)] w fun e w' => e = .returned (.bool r) ∧ Below w.heap.size w w' := by
  cases c1 : infP b
  · obtain ⟨k, e_k⟩ : ∃ v, wholeP 2 b = v := ⟨_, rfl⟩
    have L_k : Hid (k < 4294967296) := Lib.hid (by rw [← e_k]; exact lt_whole 2 L_b.out)
    have R_k := Lib.hid e_k
    have C1 := Lib.hid c1
    have HR : Hid (equalP k b = r) := Lib.hid (by rw [← hr.out]; unfold wholeB; rw [c1, e_k]; rfl)
    clear c1 e_k
    go_enter Try.func49, Try.ntmps49
    go_wp2_with fail
    refine (inf_at L_b C1).mono ?_
    rintro e' w' ⟨rfl, rfl⟩
    go_wp2_with fail
    refine (even_at L_b R_k).mono ?_
    rintro e' w2 ⟨rfl, hb⟩
    go_wp2_with fail
    refine (equal_at L_k L_b HR).mono ?_
    rintro e' w' ⟨rfl, rfl⟩
    go_wp2
    go_ret
    exact ⟨rfl, hb⟩
  · have C1 := Lib.hid c1
    have HR : Hid (r = false) := Lib.hid (by rw [← hr.out]; unfold wholeB; rw [c1]; rfl)
    clear c1
    go_enter Try.func49, Try.ntmps49
    go_wp2_with fail
    refine (inf_at L_b C1).mono ?_
    rintro e' w' ⟨rfl, rfl⟩
    go_wp2
    go_ret
    exact ⟨by rw [HR.out]; try rfl, Below.refl _ _⟩
/-- a to the power of b -/
def powY (a b : Nat) : Nat := expP (mulP 0 b (logP (absP a)))
def powP (a b : Nat) : Nat :=
  if absP b = 0 ∨ a = 1065353216 then 1065353216 else if nanP a = true ∨ nanP b = true then 2143289344 else if a = 3212836864 ∧ infP b = true then 1065353216
  else if lessP a 0 = true ∧ infP b = false ∧ wholeB b = false then 2143289344
  else if 2147483648 ≤ a ∧ wholeB b = true ∧ lessP (absP b) 1266679808 = true ∧ toIntP b % 2 = 1 then negP (powY a b) else powY a b
set_option maxRecDepth 100000 in
set_option maxHeartbeats 3200000 in
theorem pow_any (a b : Nat) (w : World) (L_a : Hid (a < 4294967296)) (L_b : Hid (b < 4294967296)) : Calls Try.prog 22 #[.int .u32 (a : Int), .int .u32 (b : Int)] w (BR w (powP a b)) := by
  obtain ⟨ab, e_ab⟩ : ∃ v, absP b = v := ⟨_, rfl⟩
  have L_ab : Hid (ab < 4294967296) := Lib.hid (by rw [← e_ab]; exact lt_abs b)
  have R_ab := Lib.hid e_ab
  obtain ⟨aa, e_aa⟩ : ∃ v, absP a = v := ⟨_, rfl⟩
  have L_aa : Hid (aa < 4294967296) := Lib.hid (by rw [← e_aa]; exact lt_abs a)
  have R_aa := Lib.hid e_aa
  obtain ⟨lg, e_lg⟩ : ∃ v, logP aa = v := ⟨_, rfl⟩
  have L_lg : Hid (lg < 4294967296) := Lib.hid (by rw [← e_lg]; exact lt_log aa)
  have R_lg := Lib.hid e_lg
  obtain ⟨bl, e_bl⟩ : ∃ v, mulP 0 b lg = v := ⟨_, rfl⟩
  have L_bl : Hid (bl < 4294967296) := Lib.hid (by rw [← e_bl]; exact (okR.mul 0 b lg).1)
  have R_bl := Lib.hid e_bl
  obtain ⟨y, e_y⟩ : ∃ v, expP bl = v := ⟨_, rfl⟩
  have L_y : Hid (y < 4294967296) := Lib.hid (by rw [← e_y]; exact lt_exp bl)
  have R_y := Lib.hid e_y
  obtain ⟨ny, e_ny⟩ : ∃ v, negP y = v := ⟨_, rfl⟩
  have L_ny : Hid (ny < 4294967296) := Lib.hid (by rw [← e_ny]; exact neg_lt L_y.out)
  have R_ny := Lib.hid e_ny
  have hY : powY a b = y := by unfold powY; rw [e_aa, e_lg, e_bl, e_y]
  have hsg := sign_and L_a.out
  by_cases h0 : ab = 0
  · have HE : Hid (powP a b = 1065353216) := Lib.hid (by unfold powP; rw [if_pos (.inl (e_ab.trans h0))])
    have b0 : ((ab : Int) == 0) = true := int_eq (y := 0) h0
    clear h0 hY hsg
    go_enter Try.func22, Try.ntmps22
    have hB0 := Below.refl w.heap.size w
    have hz0 := hB0.size
    go_wp2_with fail
    refine (abs_at L_b R_ab).mono ?_
    rintro e' w' ⟨rfl, hw⟩
    subst w'
    go_wp2
    go_ret
    exact ⟨by rw [HE.out]; try rfl, hB0⟩
  have b0 : ((ab : Int) == 0) = false := int_ne (y := 0) h0
  by_cases h1 : a = 1065353216
  · have HE : Hid (powP a b = 1065353216) := Lib.hid (by unfold powP; rw [if_pos (.inr h1)])
    have b1 : ((a : Int) == 1065353216) = true := int_eq h1
    clear h0 h1 hY hsg
    go_enter Try.func22, Try.ntmps22
    have hB0 := Below.refl w.heap.size w
    have hz0 := hB0.size
    go_wp2_with fail
    refine (abs_at L_b R_ab).mono ?_
    rintro e' w' ⟨rfl, hw⟩
    subst w'
    go_wp2
    go_ret
    exact ⟨by rw [HE.out]; try rfl, hB0⟩
  have b1 : ((a : Int) == 1065353216) = false := int_ne h1
  have n1 : ¬ (absP b = 0 ∨ a = 1065353216) := by rw [e_ab]; simp [h0, h1]
  cases c1 : nanP a
  case true =>
    have C1 := Lib.hid c1
    have HE : Hid (powP a b = 2143289344) := Lib.hid (by unfold powP; rw [if_neg n1, if_pos (.inl c1)])
    clear h0 h1 n1 c1 hY hsg
    go_enter Try.func22, Try.ntmps22
    have hB0 := Below.refl w.heap.size w
    have hz0 := hB0.size
    go_wp2_with fail
    refine (abs_at L_b R_ab).mono ?_
    rintro e' w' ⟨rfl, hw⟩
    subst w'
    go_wp2_with fail
    refine (nan_at L_a C1).mono ?_
    rintro e' w' ⟨rfl, hw⟩
    subst w'
    go_wp2
    go_ret
    exact ⟨by rw [HE.out]; try rfl, hB0⟩
  have C1 := Lib.hid c1
  cases c2 : nanP b
  case true =>
    have C2 := Lib.hid c2
    have HE : Hid (powP a b = 2143289344) := Lib.hid (by unfold powP; rw [if_neg n1, if_pos (.inr c2)])
    clear h0 h1 n1 c1 c2 hY hsg
    go_enter Try.func22, Try.ntmps22
    have hB0 := Below.refl w.heap.size w
    have hz0 := hB0.size
    go_wp2_with fail
    refine (abs_at L_b R_ab).mono ?_
    rintro e' w' ⟨rfl, hw⟩
    subst w'
    go_wp2_with fail
    refine (nan_at L_a C1).mono ?_
    rintro e' w' ⟨rfl, hw⟩
    subst w'
    go_wp2_with fail
    refine (nan_at L_b C2).mono ?_
    rintro e' w' ⟨rfl, hw⟩
    subst w'
    go_wp2
    go_ret
    exact ⟨by rw [HE.out]; try rfl, hB0⟩
  have C2 := Lib.hid c2
  have n2 : ¬ (nanP a = true ∨ nanP b = true) := by rw [c1, c2]; simp
  have hP : powP a b = if a = 3212836864 ∧ infP b = true then 1065353216 else if lessP a 0 = true ∧ infP b = false ∧ wholeB b = false then 2143289344
      else if 2147483648 ≤ a ∧ wholeB b = true ∧ lessP ab 1266679808 = true ∧ toIntP b % 2 = 1 then ny else y := by
    unfold powP
    rw [if_neg n1, if_neg n2, hY, e_ab, e_ny]
  have HPP := Lib.hid hP
  obtain ⟨n, hn⟩ : ∃ v, toIntP b = v := ⟨_, rfl⟩
  have HN := Lib.hid hn
  have hand := i64_and1 n
  obtain ⟨sg, hsgv⟩ : ∃ v, decide (2147483648 ≤ a) = v := ⟨_, rfl⟩
  rw [hsgv] at hsg
  have HSG : Hid (2147483648 ≤ a ↔ sg = true) := Lib.hid (by rw [← hsgv]; simp)
  obtain ⟨ib, hib⟩ : ∃ v, infP b = v := ⟨_, rfl⟩
  have IB := Lib.hid hib
  obtain ⟨l, hl⟩ : ∃ v, lessP a 0 = v := ⟨_, rfl⟩
  have LL := Lib.hid hl
  obtain ⟨wb, hwb⟩ : ∃ v, wholeB b = v := ⟨_, rfl⟩
  have WB := Lib.hid hwb
  obtain ⟨lb, hlb⟩ : ∃ v, lessP ab 1266679808 = v := ⟨_, rfl⟩
  have LB := Lib.hid hlb
  rw [hib, hl, hwb, hlb, hn] at hP
  have HP := Lib.hid hP
  clear hP HPP h0 h1 n1 c1 c2 n2 hY e_ab e_aa e_lg e_bl e_y e_ny hn hsgv hib hl hwb hlb
  by_cases ha : a = 3212836864
  · have ba : ((a : Int) == 3212836864) = true := int_eq ha
    have HA := Lib.hid ha
    clear ha
    cases ib
    · cases l
      · cases sg
        case false =>
          have HE : Hid (powP a b = y) := Lib.hid (by rw [HP.out, if_neg (fun h => by cases h.2), if_neg (fun h => by cases h.1), if_neg (by rw [HSG.out]; simp)])
          go_enter Try.func22, Try.ntmps22
          have hB0 := Below.refl w.heap.size w
          have hz0 := hB0.size
          go_wp2_with fail
          refine (abs_at L_b R_ab).mono ?_
          rintro e' w' ⟨rfl, hw⟩
          subst w'
          go_wp2_with fail
          refine (nan_at L_a C1).mono ?_
          rintro e' w' ⟨rfl, hw⟩
          subst w'
          go_wp2_with fail
          refine (nan_at L_b C2).mono ?_
          rintro e' w' ⟨rfl, hw⟩
          subst w'
          go_wp2_with fail
          refine (inf_at L_b IB).mono ?_
          rintro e' w' ⟨rfl, hw⟩
          subst w'
          go_wp2_with fail
          refine (less_at L_a (Lib.hid (by decide)) LL).mono ?_
          rintro e' w' ⟨rfl, hw⟩
          subst w'
          go_wp2_with fail
          refine (abs_at L_a R_aa).mono ?_
          rintro e' w' ⟨rfl, hw⟩
          subst w'
          go_wp2_with fail
          refine (log_at L_aa R_lg).mono ?_
          rintro e' W1 ⟨rfl, hC⟩
          have hB1 := hB0.trans (hC.mono hz0)
          have hz1 := hB1.size
          clear hC hB0 hz0
          go_wp2_with fail
          refine (mul0_at L_b L_lg R_bl).mono ?_
          rintro e' W2 ⟨rfl, hC⟩
          have hB2 := hB1.trans (hC.mono hz1)
          have hz2 := hB2.size
          clear hC hB1 hz1
          go_wp2_with fail
          refine (exp_at L_bl R_y).mono ?_
          rintro e' W3 ⟨rfl, hC⟩
          have hB3 := hB2.trans (hC.mono hz2)
          have hz3 := hB3.size
          clear hC hB2 hz2
          go_wp2
          go_ret
          exact ⟨by rw [HE.out]; try rfl, hB3⟩
        cases wb
        case false =>
          have HE : Hid (powP a b = y) := Lib.hid (by rw [HP.out, if_neg (fun h => by cases h.2), if_neg (fun h => by cases h.1), if_neg (by simp)])
          go_enter Try.func22, Try.ntmps22
          have hB0 := Below.refl w.heap.size w
          have hz0 := hB0.size
          go_wp2_with fail
          refine (abs_at L_b R_ab).mono ?_
          rintro e' w' ⟨rfl, hw⟩
          subst w'
          go_wp2_with fail
          refine (nan_at L_a C1).mono ?_
          rintro e' w' ⟨rfl, hw⟩
          subst w'
          go_wp2_with fail
          refine (nan_at L_b C2).mono ?_
          rintro e' w' ⟨rfl, hw⟩
          subst w'
          go_wp2_with fail
          refine (inf_at L_b IB).mono ?_
          rintro e' w' ⟨rfl, hw⟩
          subst w'
          go_wp2_with fail
          refine (less_at L_a (Lib.hid (by decide)) LL).mono ?_
          rintro e' w' ⟨rfl, hw⟩
          subst w'
          go_wp2_with fail
          refine (abs_at L_a R_aa).mono ?_
          rintro e' w' ⟨rfl, hw⟩
          subst w'
          go_wp2_with fail
          refine (log_at L_aa R_lg).mono ?_
          rintro e' W1 ⟨rfl, hC⟩
          have hB1 := hB0.trans (hC.mono hz0)
          have hz1 := hB1.size
          clear hC hB0 hz0
          go_wp2_with fail
          refine (mul0_at L_b L_lg R_bl).mono ?_
          rintro e' W2 ⟨rfl, hC⟩
          have hB2 := hB1.trans (hC.mono hz1)
          have hz2 := hB2.size
          clear hC hB1 hz1
          go_wp2_with fail
          refine (exp_at L_bl R_y).mono ?_
          rintro e' W3 ⟨rfl, hC⟩
          have hB3 := hB2.trans (hC.mono hz2)
          have hz3 := hB3.size
          clear hC hB2 hz2
          go_wp2_with fail
          refine (wholeB_at L_b WB).mono ?_
          rintro e' W4 ⟨rfl, hC⟩
          have hB4 := hB3.trans (hC.mono hz3)
          have hz4 := hB4.size
          clear hC hB3 hz3
          go_wp2
          go_ret
          exact ⟨by rw [HE.out]; try rfl, hB4⟩
        cases lb
        case false =>
          have HE : Hid (powP a b = y) := Lib.hid (by rw [HP.out, if_neg (fun h => by cases h.2), if_neg (fun h => by cases h.1), if_neg (by simp)])
          go_enter Try.func22, Try.ntmps22
          have hB0 := Below.refl w.heap.size w
          have hz0 := hB0.size
          go_wp2_with fail
          refine (abs_at L_b R_ab).mono ?_
          rintro e' w' ⟨rfl, hw⟩
          subst w'
          go_wp2_with fail
          refine (nan_at L_a C1).mono ?_
          rintro e' w' ⟨rfl, hw⟩
          subst w'
          go_wp2_with fail
          refine (nan_at L_b C2).mono ?_
          rintro e' w' ⟨rfl, hw⟩
          subst w'
          go_wp2_with fail
          refine (inf_at L_b IB).mono ?_
          rintro e' w' ⟨rfl, hw⟩
          subst w'
          go_wp2_with fail
          refine (less_at L_a (Lib.hid (by decide)) LL).mono ?_
          rintro e' w' ⟨rfl, hw⟩
          subst w'
          go_wp2_with fail
          refine (abs_at L_a R_aa).mono ?_
          rintro e' w' ⟨rfl, hw⟩
          subst w'
          go_wp2_with fail
          refine (log_at L_aa R_lg).mono ?_
          rintro e' W1 ⟨rfl, hC⟩
          have hB1 := hB0.trans (hC.mono hz0)
          have hz1 := hB1.size
          clear hC hB0 hz0
          go_wp2_with fail
          refine (mul0_at L_b L_lg R_bl).mono ?_
          rintro e' W2 ⟨rfl, hC⟩
          have hB2 := hB1.trans (hC.mono hz1)
          have hz2 := hB2.size
          clear hC hB1 hz1
          go_wp2_with fail
          refine (exp_at L_bl R_y).mono ?_
          rintro e' W3 ⟨rfl, hC⟩
          have hB3 := hB2.trans (hC.mono hz2)
          have hz3 := hB3.size
          clear hC hB2 hz2
          go_wp2_with fail
          refine (wholeB_at L_b WB).mono ?_
          rintro e' W4 ⟨rfl, hC⟩
          have hB4 := hB3.trans (hC.mono hz3)
          have hz4 := hB4.size
          clear hC hB3 hz3
          go_wp2_with fail
          refine (abs_at L_b R_ab).mono ?_
          rintro e' w' ⟨rfl, hw⟩
          subst w'
          go_wp2_with fail
          refine (less_at L_ab (Lib.hid (by decide)) LB).mono ?_
          rintro e' w' ⟨rfl, hw⟩
          subst w'
          go_wp2
          go_ret
          exact ⟨by rw [HE.out]; try rfl, hB4⟩
        by_cases ho : n % 2 = 1
        · have hod : (bits .and .i64 n 1 != 0) = true := by rw [hand, ho]; rfl
          have HE : Hid (powP a b = ny) := Lib.hid (by rw [HP.out, if_neg (fun h => by cases h.2), if_neg (fun h => by cases h.1), if_pos ⟨HSG.out.2 rfl, rfl, rfl, ho⟩])
          clear hand ho
          go_enter Try.func22, Try.ntmps22
          have hB0 := Below.refl w.heap.size w
          have hz0 := hB0.size
          go_wp2_with fail
          refine (abs_at L_b R_ab).mono ?_
          rintro e' w' ⟨rfl, hw⟩
          subst w'
          go_wp2_with fail
          refine (nan_at L_a C1).mono ?_
          rintro e' w' ⟨rfl, hw⟩
          subst w'
          go_wp2_with fail
          refine (nan_at L_b C2).mono ?_
          rintro e' w' ⟨rfl, hw⟩
          subst w'
          go_wp2_with fail
          refine (inf_at L_b IB).mono ?_
          rintro e' w' ⟨rfl, hw⟩
          subst w'
          go_wp2_with fail
          refine (less_at L_a (Lib.hid (by decide)) LL).mono ?_
          rintro e' w' ⟨rfl, hw⟩
          subst w'
          go_wp2_with fail
          refine (abs_at L_a R_aa).mono ?_
          rintro e' w' ⟨rfl, hw⟩
          subst w'
          go_wp2_with fail
          refine (log_at L_aa R_lg).mono ?_
          rintro e' W1 ⟨rfl, hC⟩
          have hB1 := hB0.trans (hC.mono hz0)
          have hz1 := hB1.size
          clear hC hB0 hz0
          go_wp2_with fail
          refine (mul0_at L_b L_lg R_bl).mono ?_
          rintro e' W2 ⟨rfl, hC⟩
          have hB2 := hB1.trans (hC.mono hz1)
          have hz2 := hB2.size
          clear hC hB1 hz1
          go_wp2_with fail
          refine (exp_at L_bl R_y).mono ?_
          rintro e' W3 ⟨rfl, hC⟩
          have hB3 := hB2.trans (hC.mono hz2)
          have hz3 := hB3.size
          clear hC hB2 hz2
          go_wp2_with fail
          refine (wholeB_at L_b WB).mono ?_
          rintro e' W4 ⟨rfl, hC⟩
          have hB4 := hB3.trans (hC.mono hz3)
          have hz4 := hB4.size
          clear hC hB3 hz3
          go_wp2_with fail
          refine (abs_at L_b R_ab).mono ?_
          rintro e' w' ⟨rfl, hw⟩
          subst w'
          go_wp2_with fail
          refine (less_at L_ab (Lib.hid (by decide)) LB).mono ?_
          rintro e' w' ⟨rfl, hw⟩
          subst w'
          go_wp2_with fail
          refine (toint_at L_b HN).mono ?_
          rintro e' W5 ⟨rfl, hC⟩
          have hB5 := hB4.trans (hC.mono hz4)
          have hz5 := hB5.size
          clear hC hB4 hz4
          go_wp2_with fail
          refine (neg_at L_y R_ny).mono ?_
          rintro e' w' ⟨rfl, hw⟩
          subst w'
          go_wp2
          go_ret
          exact ⟨by rw [HE.out]; try rfl, hB5⟩
        · have hod : (bits .and .i64 n 1 != 0) = false := by rw [hand, show n % 2 = 0 from by omega]; rfl
          have HE : Hid (powP a b = y) := Lib.hid (by rw [HP.out, if_neg (fun h => by cases h.2), if_neg (fun h => by cases h.1), if_neg (fun h => ho h.2.2.2)])
          clear hand ho
          go_enter Try.func22, Try.ntmps22
          have hB0 := Below.refl w.heap.size w
          have hz0 := hB0.size
          go_wp2_with fail
          refine (abs_at L_b R_ab).mono ?_
          rintro e' w' ⟨rfl, hw⟩
          subst w'
          go_wp2_with fail
          refine (nan_at L_a C1).mono ?_
          rintro e' w' ⟨rfl, hw⟩
          subst w'
          go_wp2_with fail
          refine (nan_at L_b C2).mono ?_
          rintro e' w' ⟨rfl, hw⟩
          subst w'
          go_wp2_with fail
          refine (inf_at L_b IB).mono ?_
          rintro e' w' ⟨rfl, hw⟩
          subst w'
          go_wp2_with fail
          refine (less_at L_a (Lib.hid (by decide)) LL).mono ?_
          rintro e' w' ⟨rfl, hw⟩
          subst w'
          go_wp2_with fail
          refine (abs_at L_a R_aa).mono ?_
          rintro e' w' ⟨rfl, hw⟩
          subst w'
          go_wp2_with fail
          refine (log_at L_aa R_lg).mono ?_
          rintro e' W1 ⟨rfl, hC⟩
          have hB1 := hB0.trans (hC.mono hz0)
          have hz1 := hB1.size
          clear hC hB0 hz0
          go_wp2_with fail
          refine (mul0_at L_b L_lg R_bl).mono ?_
          rintro e' W2 ⟨rfl, hC⟩
          have hB2 := hB1.trans (hC.mono hz1)
          have hz2 := hB2.size
          clear hC hB1 hz1
          go_wp2_with fail
          refine (exp_at L_bl R_y).mono ?_
          rintro e' W3 ⟨rfl, hC⟩
          have hB3 := hB2.trans (hC.mono hz2)
          have hz3 := hB3.size
          clear hC hB2 hz2
          go_wp2_with fail
          refine (wholeB_at L_b WB).mono ?_
          rintro e' W4 ⟨rfl, hC⟩
          have hB4 := hB3.trans (hC.mono hz3)
          have hz4 := hB4.size
          clear hC hB3 hz3
          go_wp2_with fail
          refine (abs_at L_b R_ab).mono ?_
          rintro e' w' ⟨rfl, hw⟩
          subst w'
          go_wp2_with fail
          refine (less_at L_ab (Lib.hid (by decide)) LB).mono ?_
          rintro e' w' ⟨rfl, hw⟩
          subst w'
          go_wp2_with fail
          refine (toint_at L_b HN).mono ?_
          rintro e' W5 ⟨rfl, hC⟩
          have hB5 := hB4.trans (hC.mono hz4)
          have hz5 := hB5.size
          clear hC hB4 hz4
          go_wp2
          go_ret
          exact ⟨by rw [HE.out]; try rfl, hB5⟩
      · cases wb
        case false =>
          have HE : Hid (powP a b = 2143289344) := Lib.hid (by rw [HP.out, if_neg (fun h => by cases h.2), if_pos ⟨rfl, rfl, rfl⟩])
          go_enter Try.func22, Try.ntmps22
          have hB0 := Below.refl w.heap.size w
          have hz0 := hB0.size
          go_wp2_with fail
          refine (abs_at L_b R_ab).mono ?_
          rintro e' w' ⟨rfl, hw⟩
          subst w'
          go_wp2_with fail
          refine (nan_at L_a C1).mono ?_
          rintro e' w' ⟨rfl, hw⟩
          subst w'
          go_wp2_with fail
          refine (nan_at L_b C2).mono ?_
          rintro e' w' ⟨rfl, hw⟩
          subst w'
          go_wp2_with fail
          refine (inf_at L_b IB).mono ?_
          rintro e' w' ⟨rfl, hw⟩
          subst w'
          go_wp2_with fail
          refine (less_at L_a (Lib.hid (by decide)) LL).mono ?_
          rintro e' w' ⟨rfl, hw⟩
          subst w'
          go_wp2_with fail
          refine (inf_at L_b IB).mono ?_
          rintro e' w' ⟨rfl, hw⟩
          subst w'
          go_wp2_with fail
          refine (wholeB_at L_b WB).mono ?_
          rintro e' W1 ⟨rfl, hC⟩
          have hB1 := hB0.trans (hC.mono hz0)
          have hz1 := hB1.size
          clear hC hB0 hz0
          go_wp2
          go_ret
          exact ⟨by rw [HE.out]; try rfl, hB1⟩

        cases sg
        case false =>
          have HE : Hid (powP a b = y) := Lib.hid (by rw [HP.out, if_neg (fun h => by cases h.2), if_neg (fun h => by cases h.2.2), if_neg (by rw [HSG.out]; simp)])
          go_enter Try.func22, Try.ntmps22
          have hB0 := Below.refl w.heap.size w
          have hz0 := hB0.size
          go_wp2_with fail
          refine (abs_at L_b R_ab).mono ?_
          rintro e' w' ⟨rfl, hw⟩
          subst w'
          go_wp2_with fail
          refine (nan_at L_a C1).mono ?_
          rintro e' w' ⟨rfl, hw⟩
          subst w'
          go_wp2_with fail
          refine (nan_at L_b C2).mono ?_
          rintro e' w' ⟨rfl, hw⟩
          subst w'
          go_wp2_with fail
          refine (inf_at L_b IB).mono ?_
          rintro e' w' ⟨rfl, hw⟩
          subst w'
          go_wp2_with fail
          refine (less_at L_a (Lib.hid (by decide)) LL).mono ?_
          rintro e' w' ⟨rfl, hw⟩
          subst w'
          go_wp2_with fail
          refine (inf_at L_b IB).mono ?_
          rintro e' w' ⟨rfl, hw⟩
          subst w'
          go_wp2_with fail
          refine (wholeB_at L_b WB).mono ?_
          rintro e' W1 ⟨rfl, hC⟩
          have hB1 := hB0.trans (hC.mono hz0)
          have hz1 := hB1.size
          clear hC hB0 hz0
          go_wp2_with fail
          refine (abs_at L_a R_aa).mono ?_
          rintro e' w' ⟨rfl, hw⟩
          subst w'
          go_wp2_with fail
          refine (log_at L_aa R_lg).mono ?_
          rintro e' W2 ⟨rfl, hC⟩
          have hB2 := hB1.trans (hC.mono hz1)
          have hz2 := hB2.size
          clear hC hB1 hz1
          go_wp2_with fail
          refine (mul0_at L_b L_lg R_bl).mono ?_
          rintro e' W3 ⟨rfl, hC⟩
          have hB3 := hB2.trans (hC.mono hz2)
          have hz3 := hB3.size
          clear hC hB2 hz2
          go_wp2_with fail
          refine (exp_at L_bl R_y).mono ?_
          rintro e' W4 ⟨rfl, hC⟩
          have hB4 := hB3.trans (hC.mono hz3)
          have hz4 := hB4.size
          clear hC hB3 hz3
          go_wp2
          go_ret
          exact ⟨by rw [HE.out]; try rfl, hB4⟩
        cases lb
        case false =>
          have HE : Hid (powP a b = y) := Lib.hid (by rw [HP.out, if_neg (fun h => by cases h.2), if_neg (fun h => by cases h.2.2), if_neg (by simp)])
          go_enter Try.func22, Try.ntmps22
          have hB0 := Below.refl w.heap.size w
          have hz0 := hB0.size
          go_wp2_with fail
          refine (abs_at L_b R_ab).mono ?_
          rintro e' w' ⟨rfl, hw⟩
          subst w'
          go_wp2_with fail
          refine (nan_at L_a C1).mono ?_
          rintro e' w' ⟨rfl, hw⟩
          subst w'
          go_wp2_with fail
          refine (nan_at L_b C2).mono ?_
          rintro e' w' ⟨rfl, hw⟩
          subst w'
          go_wp2_with fail
          refine (inf_at L_b IB).mono ?_
          rintro e' w' ⟨rfl, hw⟩
          subst w'
          go_wp2_with fail
          refine (less_at L_a (Lib.hid (by decide)) LL).mono ?_
          rintro e' w' ⟨rfl, hw⟩
          subst w'
          go_wp2_with fail
          refine (inf_at L_b IB).mono ?_
          rintro e' w' ⟨rfl, hw⟩
          subst w'
          go_wp2_with fail
          refine (wholeB_at L_b WB).mono ?_
          rintro e' W1 ⟨rfl, hC⟩
          have hB1 := hB0.trans (hC.mono hz0)
          have hz1 := hB1.size
          clear hC hB0 hz0
          go_wp2_with fail
          refine (abs_at L_a R_aa).mono ?_
          rintro e' w' ⟨rfl, hw⟩
          subst w'
          go_wp2_with fail
          refine (log_at L_aa R_lg).mono ?_
          rintro e' W2 ⟨rfl, hC⟩
          have hB2 := hB1.trans (hC.mono hz1)
          have hz2 := hB2.size
          clear hC hB1 hz1
          go_wp2_with fail
          refine (mul0_at L_b L_lg R_bl).mono ?_
          rintro e' W3 ⟨rfl, hC⟩
          have hB3 := hB2.trans (hC.mono hz2)
          have hz3 := hB3.size
          clear hC hB2 hz2
          go_wp2_with fail
          refine (exp_at L_bl R_y).mono ?_
          rintro e' W4 ⟨rfl, hC⟩
          have hB4 := hB3.trans (hC.mono hz3)
          have hz4 := hB4.size
          clear hC hB3 hz3
          go_wp2_with fail
          refine (wholeB_at L_b WB).mono ?_
          rintro e' W5 ⟨rfl, hC⟩
          have hB5 := hB4.trans (hC.mono hz4)
          have hz5 := hB5.size
          clear hC hB4 hz4
          go_wp2_with fail
          refine (abs_at L_b R_ab).mono ?_
          rintro e' w' ⟨rfl, hw⟩
          subst w'
          go_wp2_with fail
          refine (less_at L_ab (Lib.hid (by decide)) LB).mono ?_
          rintro e' w' ⟨rfl, hw⟩
          subst w'
          go_wp2
          go_ret
          exact ⟨by rw [HE.out]; try rfl, hB5⟩
        by_cases ho : n % 2 = 1
        · have hod : (bits .and .i64 n 1 != 0) = true := by rw [hand, ho]; rfl
          have HE : Hid (powP a b = ny) := Lib.hid (by rw [HP.out, if_neg (fun h => by cases h.2), if_neg (fun h => by cases h.2.2), if_pos ⟨HSG.out.2 rfl, rfl, rfl, ho⟩])
          clear hand ho
          go_enter Try.func22, Try.ntmps22
          have hB0 := Below.refl w.heap.size w
          have hz0 := hB0.size
          go_wp2_with fail
          refine (abs_at L_b R_ab).mono ?_
          rintro e' w' ⟨rfl, hw⟩
          subst w'
          go_wp2_with fail
          refine (nan_at L_a C1).mono ?_
          rintro e' w' ⟨rfl, hw⟩
          subst w'
          go_wp2_with fail
          refine (nan_at L_b C2).mono ?_
          rintro e' w' ⟨rfl, hw⟩
          subst w'
          go_wp2_with fail
          refine (inf_at L_b IB).mono ?_
          rintro e' w' ⟨rfl, hw⟩
          subst w'
          go_wp2_with fail
          refine (less_at L_a (Lib.hid (by decide)) LL).mono ?_
          rintro e' w' ⟨rfl, hw⟩
          subst w'
          go_wp2_with fail
          refine (inf_at L_b IB).mono ?_
          rintro e' w' ⟨rfl, hw⟩
          subst w'
          go_wp2_with fail
          refine (wholeB_at L_b WB).mono ?_
          rintro e' W1 ⟨rfl, hC⟩
          have hB1 := hB0.trans (hC.mono hz0)
          have hz1 := hB1.size
          clear hC hB0 hz0
          go_wp2_with fail
          refine (abs_at L_a R_aa).mono ?_
          rintro e' w' ⟨rfl, hw⟩
          subst w'
          go_wp2_with fail
          refine (log_at L_aa R_lg).mono ?_
          rintro e' W2 ⟨rfl, hC⟩
          have hB2 := hB1.trans (hC.mono hz1)
          have hz2 := hB2.size
          clear hC hB1 hz1
          go_wp2_with fail
          refine (mul0_at L_b L_lg R_bl).mono ?_
          rintro e' W3 ⟨rfl, hC⟩
          have hB3 := hB2.trans (hC.mono hz2)
          have hz3 := hB3.size
          clear hC hB2 hz2
          go_wp2_with fail
          refine (exp_at L_bl R_y).mono ?_
          rintro e' W4 ⟨rfl, hC⟩
          have hB4 := hB3.trans (hC.mono hz3)
          have hz4 := hB4.size
          clear hC hB3 hz3
          go_wp2_with fail
          refine (wholeB_at L_b WB).mono ?_
          rintro e' W5 ⟨rfl, hC⟩
          have hB5 := hB4.trans (hC.mono hz4)
          have hz5 := hB5.size
          clear hC hB4 hz4
          go_wp2_with fail
          refine (abs_at L_b R_ab).mono ?_
          rintro e' w' ⟨rfl, hw⟩
          subst w'
          go_wp2_with fail
          refine (less_at L_ab (Lib.hid (by decide)) LB).mono ?_
          rintro e' w' ⟨rfl, hw⟩
          subst w'
          go_wp2_with fail
          refine (toint_at L_b HN).mono ?_
          rintro e' W6 ⟨rfl, hC⟩
          have hB6 := hB5.trans (hC.mono hz5)
          have hz6 := hB6.size
          clear hC hB5 hz5
          go_wp2_with fail
          refine (neg_at L_y R_ny).mono ?_
          rintro e' w' ⟨rfl, hw⟩
          subst w'
          go_wp2
          go_ret
          exact ⟨by rw [HE.out]; try rfl, hB6⟩
        · have hod : (bits .and .i64 n 1 != 0) = false := by rw [hand, show n % 2 = 0 from by omega]; rfl
          have HE : Hid (powP a b = y) := Lib.hid (by rw [HP.out, if_neg (fun h => by cases h.2), if_neg (fun h => by cases h.2.2), if_neg (fun h => ho h.2.2.2)])
          clear hand ho
          go_enter Try.func22, Try.ntmps22
          have hB0 := Below.refl w.heap.size w
          have hz0 := hB0.size
          go_wp2_with fail
          refine (abs_at L_b R_ab).mono ?_
          rintro e' w' ⟨rfl, hw⟩
          subst w'
          go_wp2_with fail
          refine (nan_at L_a C1).mono ?_
          rintro e' w' ⟨rfl, hw⟩
          subst w'
          go_wp2_with fail
          refine (nan_at L_b C2).mono ?_
          rintro e' w' ⟨rfl, hw⟩
          subst w'
          go_wp2_with fail
          refine (inf_at L_b IB).mono ?_
          rintro e' w' ⟨rfl, hw⟩
          subst w'
          go_wp2_with fail
          refine (less_at L_a (Lib.hid (by decide)) LL).mono ?_
          rintro e' w' ⟨rfl, hw⟩
          subst w'
          go_wp2_with fail
          refine (inf_at L_b IB).mono ?_
          rintro e' w' ⟨rfl, hw⟩
          subst w'
          go_wp2_with fail
          refine (wholeB_at L_b WB).mono ?_
          rintro e' W1 ⟨rfl, hC⟩
          have hB1 := hB0.trans (hC.mono hz0)
          have hz1 := hB1.size
          clear hC hB0 hz0
          go_wp2_with fail
          refine (abs_at L_a R_aa).mono ?_
          rintro e' w' ⟨rfl, hw⟩
          subst w'
          go_wp2_with fail
          refine (log_at L_aa R_lg).mono ?_
          rintro e' W2 ⟨rfl, hC⟩
          have hB2 := hB1.trans (hC.mono hz1)
          have hz2 := hB2.size
          clear hC hB1 hz1
          go_wp2_with fail
          refine (mul0_at L_b L_lg R_bl).mono ?_
          rintro e' W3 ⟨rfl, hC⟩
          have hB3 := hB2.trans (hC.mono hz2)
          have hz3 := hB3.size
          clear hC hB2 hz2
          go_wp2_with fail
          refine (exp_at L_bl R_y).mono ?_
          rintro e' W4 ⟨rfl, hC⟩
          have hB4 := hB3.trans (hC.mono hz3)
          have hz4 := hB4.size
          clear hC hB3 hz3
          go_wp2_with fail
          refine (wholeB_at L_b WB).mono ?_
          rintro e' W5 ⟨rfl, hC⟩
          have hB5 := hB4.trans (hC.mono hz4)
          have hz5 := hB5.size
          clear hC hB4 hz4
          go_wp2_with fail
          refine (abs_at L_b R_ab).mono ?_
          rintro e' w' ⟨rfl, hw⟩
          subst w'
          go_wp2_with fail
          refine (less_at L_ab (Lib.hid (by decide)) LB).mono ?_
          rintro e' w' ⟨rfl, hw⟩
          subst w'
          go_wp2_with fail
          refine (toint_at L_b HN).mono ?_
          rintro e' W6 ⟨rfl, hC⟩
          have hB6 := hB5.trans (hC.mono hz5)
          have hz6 := hB6.size
          clear hC hB5 hz5
          go_wp2
          go_ret
          exact ⟨by rw [HE.out]; try rfl, hB6⟩
    · have HE : Hid (powP a b = 1065353216) := Lib.hid (by rw [HP.out, if_pos ⟨HA.out, rfl⟩])
      go_enter Try.func22, Try.ntmps22
      have hB0 := Below.refl w.heap.size w
      have hz0 := hB0.size
      go_wp2_with fail
      refine (abs_at L_b R_ab).mono ?_
      rintro e' w' ⟨rfl, hw⟩
      subst w'
      go_wp2_with fail
      refine (nan_at L_a C1).mono ?_
      rintro e' w' ⟨rfl, hw⟩
      subst w'
      go_wp2_with fail
      refine (nan_at L_b C2).mono ?_
      rintro e' w' ⟨rfl, hw⟩
      subst w'
      go_wp2_with fail
      refine (inf_at L_b IB).mono ?_
      rintro e' w' ⟨rfl, hw⟩
      subst w'
      go_wp2
      go_ret
      exact ⟨by rw [HE.out]; try rfl, hB0⟩
  · have ba : ((a : Int) == 3212836864) = false := int_ne ha
    have HA := Lib.hid ha
    clear ha
    cases l
    · cases sg
      case false =>
        have HE : Hid (powP a b = y) := Lib.hid (by rw [HP.out, if_neg (fun h => HA.out h.1), if_neg (fun h => by cases h.1), if_neg (by rw [HSG.out]; simp)])
        go_enter Try.func22, Try.ntmps22
        have hB0 := Below.refl w.heap.size w
        have hz0 := hB0.size
        go_wp2_with fail
        refine (abs_at L_b R_ab).mono ?_
        rintro e' w' ⟨rfl, hw⟩
        subst w'
        go_wp2_with fail
        refine (nan_at L_a C1).mono ?_
        rintro e' w' ⟨rfl, hw⟩
        subst w'
        go_wp2_with fail
        refine (nan_at L_b C2).mono ?_
        rintro e' w' ⟨rfl, hw⟩
        subst w'
        go_wp2_with fail
        refine (less_at L_a (Lib.hid (by decide)) LL).mono ?_
        rintro e' w' ⟨rfl, hw⟩
        subst w'
        go_wp2_with fail
        refine (abs_at L_a R_aa).mono ?_
        rintro e' w' ⟨rfl, hw⟩
        subst w'
        go_wp2_with fail
        refine (log_at L_aa R_lg).mono ?_
        rintro e' W1 ⟨rfl, hC⟩
        have hB1 := hB0.trans (hC.mono hz0)
        have hz1 := hB1.size
        clear hC hB0 hz0
        go_wp2_with fail
        refine (mul0_at L_b L_lg R_bl).mono ?_
        rintro e' W2 ⟨rfl, hC⟩
        have hB2 := hB1.trans (hC.mono hz1)
        have hz2 := hB2.size
        clear hC hB1 hz1
        go_wp2_with fail
        refine (exp_at L_bl R_y).mono ?_
        rintro e' W3 ⟨rfl, hC⟩
        have hB3 := hB2.trans (hC.mono hz2)
        have hz3 := hB3.size
        clear hC hB2 hz2
        go_wp2
        go_ret
        exact ⟨by rw [HE.out]; try rfl, hB3⟩
      cases wb
      case false =>
        have HE : Hid (powP a b = y) := Lib.hid (by rw [HP.out, if_neg (fun h => HA.out h.1), if_neg (fun h => by cases h.1), if_neg (by simp)])
        go_enter Try.func22, Try.ntmps22
        have hB0 := Below.refl w.heap.size w
        have hz0 := hB0.size
        go_wp2_with fail
        refine (abs_at L_b R_ab).mono ?_
        rintro e' w' ⟨rfl, hw⟩
        subst w'
        go_wp2_with fail
        refine (nan_at L_a C1).mono ?_
        rintro e' w' ⟨rfl, hw⟩
        subst w'
        go_wp2_with fail
        refine (nan_at L_b C2).mono ?_
        rintro e' w' ⟨rfl, hw⟩
        subst w'
        go_wp2_with fail
        refine (less_at L_a (Lib.hid (by decide)) LL).mono ?_
        rintro e' w' ⟨rfl, hw⟩
        subst w'
        go_wp2_with fail
        refine (abs_at L_a R_aa).mono ?_
        rintro e' w' ⟨rfl, hw⟩
        subst w'
        go_wp2_with fail
        refine (log_at L_aa R_lg).mono ?_
        rintro e' W1 ⟨rfl, hC⟩
        have hB1 := hB0.trans (hC.mono hz0)
        have hz1 := hB1.size
        clear hC hB0 hz0
        go_wp2_with fail
        refine (mul0_at L_b L_lg R_bl).mono ?_
        rintro e' W2 ⟨rfl, hC⟩
        have hB2 := hB1.trans (hC.mono hz1)
        have hz2 := hB2.size
        clear hC hB1 hz1
        go_wp2_with fail
        refine (exp_at L_bl R_y).mono ?_
        rintro e' W3 ⟨rfl, hC⟩
        have hB3 := hB2.trans (hC.mono hz2)
        have hz3 := hB3.size
        clear hC hB2 hz2
        go_wp2_with fail
        refine (wholeB_at L_b WB).mono ?_
        rintro e' W4 ⟨rfl, hC⟩
        have hB4 := hB3.trans (hC.mono hz3)
        have hz4 := hB4.size
        clear hC hB3 hz3
        go_wp2
        go_ret
        exact ⟨by rw [HE.out]; try rfl, hB4⟩
      cases lb
      case false =>
        have HE : Hid (powP a b = y) := Lib.hid (by rw [HP.out, if_neg (fun h => HA.out h.1), if_neg (fun h => by cases h.1), if_neg (by simp)])
        go_enter Try.func22, Try.ntmps22
        have hB0 := Below.refl w.heap.size w
        have hz0 := hB0.size
        go_wp2_with fail
        refine (abs_at L_b R_ab).mono ?_
        rintro e' w' ⟨rfl, hw⟩
        subst w'
        go_wp2_with fail
        refine (nan_at L_a C1).mono ?_
        rintro e' w' ⟨rfl, hw⟩
        subst w'
        go_wp2_with fail
        refine (nan_at L_b C2).mono ?_
        rintro e' w' ⟨rfl, hw⟩
        subst w'
        go_wp2_with fail
        refine (less_at L_a (Lib.hid (by decide)) LL).mono ?_
        rintro e' w' ⟨rfl, hw⟩
        subst w'
        go_wp2_with fail
        refine (abs_at L_a R_aa).mono ?_
        rintro e' w' ⟨rfl, hw⟩
        subst w'
        go_wp2_with fail
        refine (log_at L_aa R_lg).mono ?_
        rintro e' W1 ⟨rfl, hC⟩
        have hB1 := hB0.trans (hC.mono hz0)
        have hz1 := hB1.size
        clear hC hB0 hz0
        go_wp2_with fail
        refine (mul0_at L_b L_lg R_bl).mono ?_
        rintro e' W2 ⟨rfl, hC⟩
        have hB2 := hB1.trans (hC.mono hz1)
        have hz2 := hB2.size
        clear hC hB1 hz1
        go_wp2_with fail
        refine (exp_at L_bl R_y).mono ?_
        rintro e' W3 ⟨rfl, hC⟩
        have hB3 := hB2.trans (hC.mono hz2)
        have hz3 := hB3.size
        clear hC hB2 hz2
        go_wp2_with fail
        refine (wholeB_at L_b WB).mono ?_
        rintro e' W4 ⟨rfl, hC⟩
        have hB4 := hB3.trans (hC.mono hz3)
        have hz4 := hB4.size
        clear hC hB3 hz3
        go_wp2_with fail
        refine (abs_at L_b R_ab).mono ?_
        rintro e' w' ⟨rfl, hw⟩
        subst w'
        go_wp2_with fail
        refine (less_at L_ab (Lib.hid (by decide)) LB).mono ?_
        rintro e' w' ⟨rfl, hw⟩
        subst w'
        go_wp2
        go_ret
        exact ⟨by rw [HE.out]; try rfl, hB4⟩
      by_cases ho : n % 2 = 1
      · have hod : (bits .and .i64 n 1 != 0) = true := by rw [hand, ho]; rfl
        have HE : Hid (powP a b = ny) := Lib.hid (by rw [HP.out, if_neg (fun h => HA.out h.1), if_neg (fun h => by cases h.1), if_pos ⟨HSG.out.2 rfl, rfl, rfl, ho⟩])
        clear hand ho
        go_enter Try.func22, Try.ntmps22
        have hB0 := Below.refl w.heap.size w
        have hz0 := hB0.size
        go_wp2_with fail
        refine (abs_at L_b R_ab).mono ?_
        rintro e' w' ⟨rfl, hw⟩
        subst w'
        go_wp2_with fail
        refine (nan_at L_a C1).mono ?_
        rintro e' w' ⟨rfl, hw⟩
        subst w'
        go_wp2_with fail
        refine (nan_at L_b C2).mono ?_
        rintro e' w' ⟨rfl, hw⟩
        subst w'
        go_wp2_with fail
        refine (less_at L_a (Lib.hid (by decide)) LL).mono ?_
        rintro e' w' ⟨rfl, hw⟩
        subst w'
        go_wp2_with fail
        refine (abs_at L_a R_aa).mono ?_
        rintro e' w' ⟨rfl, hw⟩
        subst w'
        go_wp2_with fail
        refine (log_at L_aa R_lg).mono ?_
        rintro e' W1 ⟨rfl, hC⟩
        have hB1 := hB0.trans (hC.mono hz0)
        have hz1 := hB1.size
        clear hC hB0 hz0
        go_wp2_with fail
        refine (mul0_at L_b L_lg R_bl).mono ?_
        rintro e' W2 ⟨rfl, hC⟩
        have hB2 := hB1.trans (hC.mono hz1)
        have hz2 := hB2.size
        clear hC hB1 hz1
        go_wp2_with fail
        refine (exp_at L_bl R_y).mono ?_
        rintro e' W3 ⟨rfl, hC⟩
        have hB3 := hB2.trans (hC.mono hz2)
        have hz3 := hB3.size
        clear hC hB2 hz2
        go_wp2_with fail
        refine (wholeB_at L_b WB).mono ?_
        rintro e' W4 ⟨rfl, hC⟩
        have hB4 := hB3.trans (hC.mono hz3)
        have hz4 := hB4.size
        clear hC hB3 hz3
        go_wp2_with fail
        refine (abs_at L_b R_ab).mono ?_
        rintro e' w' ⟨rfl, hw⟩
        subst w'
        go_wp2_with fail
        refine (less_at L_ab (Lib.hid (by decide)) LB).mono ?_
        rintro e' w' ⟨rfl, hw⟩
        subst w'
        go_wp2_with fail
        refine (toint_at L_b HN).mono ?_
        rintro e' W5 ⟨rfl, hC⟩
        have hB5 := hB4.trans (hC.mono hz4)
        have hz5 := hB5.size
        clear hC hB4 hz4
        go_wp2_with fail
        refine (neg_at L_y R_ny).mono ?_
        rintro e' w' ⟨rfl, hw⟩
        subst w'
        go_wp2
        go_ret
        exact ⟨by rw [HE.out]; try rfl, hB5⟩
      · have hod : (bits .and .i64 n 1 != 0) = false := by rw [hand, show n % 2 = 0 from by omega]; rfl
        have HE : Hid (powP a b = y) := Lib.hid (by rw [HP.out, if_neg (fun h => HA.out h.1), if_neg (fun h => by cases h.1), if_neg (fun h => ho h.2.2.2)])
        clear hand ho
        go_enter Try.func22, Try.ntmps22
        have hB0 := Below.refl w.heap.size w
        have hz0 := hB0.size
        go_wp2_with fail
        refine (abs_at L_b R_ab).mono ?_
        rintro e' w' ⟨rfl, hw⟩
        subst w'
        go_wp2_with fail
        refine (nan_at L_a C1).mono ?_
        rintro e' w' ⟨rfl, hw⟩
        subst w'
        go_wp2_with fail
        refine (nan_at L_b C2).mono ?_
        rintro e' w' ⟨rfl, hw⟩
        subst w'
        go_wp2_with fail
        refine (less_at L_a (Lib.hid (by decide)) LL).mono ?_
        rintro e' w' ⟨rfl, hw⟩
        subst w'
        go_wp2_with fail
        refine (abs_at L_a R_aa).mono ?_
        rintro e' w' ⟨rfl, hw⟩
        subst w'
        go_wp2_with fail
        refine (log_at L_aa R_lg).mono ?_
        rintro e' W1 ⟨rfl, hC⟩
        have hB1 := hB0.trans (hC.mono hz0)
        have hz1 := hB1.size
        clear hC hB0 hz0
        go_wp2_with fail
        refine (mul0_at L_b L_lg R_bl).mono ?_
        rintro e' W2 ⟨rfl, hC⟩
        have hB2 := hB1.trans (hC.mono hz1)
        have hz2 := hB2.size
        clear hC hB1 hz1
        go_wp2_with fail
        refine (exp_at L_bl R_y).mono ?_
        rintro e' W3 ⟨rfl, hC⟩
        have hB3 := hB2.trans (hC.mono hz2)
        have hz3 := hB3.size
        clear hC hB2 hz2
        go_wp2_with fail
        refine (wholeB_at L_b WB).mono ?_
        rintro e' W4 ⟨rfl, hC⟩
        have hB4 := hB3.trans (hC.mono hz3)
        have hz4 := hB4.size
        clear hC hB3 hz3
        go_wp2_with fail
        refine (abs_at L_b R_ab).mono ?_
        rintro e' w' ⟨rfl, hw⟩
        subst w'
        go_wp2_with fail
        refine (less_at L_ab (Lib.hid (by decide)) LB).mono ?_
        rintro e' w' ⟨rfl, hw⟩
        subst w'
        go_wp2_with fail
        refine (toint_at L_b HN).mono ?_
        rintro e' W5 ⟨rfl, hC⟩
        have hB5 := hB4.trans (hC.mono hz4)
        have hz5 := hB5.size
        clear hC hB4 hz4
        go_wp2
        go_ret
        exact ⟨by rw [HE.out]; try rfl, hB5⟩
    · cases ib
      · cases wb
        case false =>
          have HE : Hid (powP a b = 2143289344) := Lib.hid (by rw [HP.out, if_neg (fun h => HA.out h.1), if_pos ⟨rfl, rfl, rfl⟩])
          go_enter Try.func22, Try.ntmps22
          have hB0 := Below.refl w.heap.size w
          have hz0 := hB0.size
          go_wp2_with fail
          refine (abs_at L_b R_ab).mono ?_
          rintro e' w' ⟨rfl, hw⟩
          subst w'
          go_wp2_with fail
          refine (nan_at L_a C1).mono ?_
          rintro e' w' ⟨rfl, hw⟩
          subst w'
          go_wp2_with fail
          refine (nan_at L_b C2).mono ?_
          rintro e' w' ⟨rfl, hw⟩
          subst w'
          go_wp2_with fail
          refine (less_at L_a (Lib.hid (by decide)) LL).mono ?_
          rintro e' w' ⟨rfl, hw⟩
          subst w'
          go_wp2_with fail
          refine (inf_at L_b IB).mono ?_
          rintro e' w' ⟨rfl, hw⟩
          subst w'
          go_wp2_with fail
          refine (wholeB_at L_b WB).mono ?_
          rintro e' W1 ⟨rfl, hC⟩
          have hB1 := hB0.trans (hC.mono hz0)
          have hz1 := hB1.size
          clear hC hB0 hz0
          go_wp2
          go_ret
          exact ⟨by rw [HE.out]; try rfl, hB1⟩
        cases sg
        case false =>
          have HE : Hid (powP a b = y) := Lib.hid (by rw [HP.out, if_neg (fun h => HA.out h.1), if_neg (fun h => by cases h.2.2), if_neg (by rw [HSG.out]; simp)])
          go_enter Try.func22, Try.ntmps22
          have hB0 := Below.refl w.heap.size w
          have hz0 := hB0.size
          go_wp2_with fail
          refine (abs_at L_b R_ab).mono ?_
          rintro e' w' ⟨rfl, hw⟩
          subst w'
          go_wp2_with fail
          refine (nan_at L_a C1).mono ?_
          rintro e' w' ⟨rfl, hw⟩
          subst w'
          go_wp2_with fail
          refine (nan_at L_b C2).mono ?_
          rintro e' w' ⟨rfl, hw⟩
          subst w'
          go_wp2_with fail
          refine (less_at L_a (Lib.hid (by decide)) LL).mono ?_
          rintro e' w' ⟨rfl, hw⟩
          subst w'
          go_wp2_with fail
          refine (inf_at L_b IB).mono ?_
          rintro e' w' ⟨rfl, hw⟩
          subst w'
          go_wp2_with fail
          refine (wholeB_at L_b WB).mono ?_
          rintro e' W1 ⟨rfl, hC⟩
          have hB1 := hB0.trans (hC.mono hz0)
          have hz1 := hB1.size
          clear hC hB0 hz0
          go_wp2_with fail
          refine (abs_at L_a R_aa).mono ?_
          rintro e' w' ⟨rfl, hw⟩
          subst w'
          go_wp2_with fail
          refine (log_at L_aa R_lg).mono ?_
          rintro e' W2 ⟨rfl, hC⟩
          have hB2 := hB1.trans (hC.mono hz1)
          have hz2 := hB2.size
          clear hC hB1 hz1
          go_wp2_with fail
          refine (mul0_at L_b L_lg R_bl).mono ?_
          rintro e' W3 ⟨rfl, hC⟩
          have hB3 := hB2.trans (hC.mono hz2)
          have hz3 := hB3.size
          clear hC hB2 hz2
          go_wp2_with fail
          refine (exp_at L_bl R_y).mono ?_
          rintro e' W4 ⟨rfl, hC⟩
          have hB4 := hB3.trans (hC.mono hz3)
          have hz4 := hB4.size
          clear hC hB3 hz3
          go_wp2
          go_ret
          exact ⟨by rw [HE.out]; try rfl, hB4⟩
        cases lb
        case false =>
          have HE : Hid (powP a b = y) := Lib.hid (by rw [HP.out, if_neg (fun h => HA.out h.1), if_neg (fun h => by cases h.2.2), if_neg (by simp)])
          go_enter Try.func22, Try.ntmps22
          have hB0 := Below.refl w.heap.size w
          have hz0 := hB0.size
          go_wp2_with fail
          refine (abs_at L_b R_ab).mono ?_
          rintro e' w' ⟨rfl, hw⟩
          subst w'
          go_wp2_with fail
          refine (nan_at L_a C1).mono ?_
          rintro e' w' ⟨rfl, hw⟩
          subst w'
          go_wp2_with fail
          refine (nan_at L_b C2).mono ?_
          rintro e' w' ⟨rfl, hw⟩
          subst w'
          go_wp2_with fail
          refine (less_at L_a (Lib.hid (by decide)) LL).mono ?_
          rintro e' w' ⟨rfl, hw⟩
          subst w'
          go_wp2_with fail
          refine (inf_at L_b IB).mono ?_
          rintro e' w' ⟨rfl, hw⟩
          subst w'
          go_wp2_with fail
          refine (wholeB_at L_b WB).mono ?_
          rintro e' W1 ⟨rfl, hC⟩
          have hB1 := hB0.trans (hC.mono hz0)
          have hz1 := hB1.size
          clear hC hB0 hz0
          go_wp2_with fail
          refine (abs_at L_a R_aa).mono ?_
          rintro e' w' ⟨rfl, hw⟩
          subst w'
          go_wp2_with fail
          refine (log_at L_aa R_lg).mono ?_
          rintro e' W2 ⟨rfl, hC⟩
          have hB2 := hB1.trans (hC.mono hz1)
          have hz2 := hB2.size
          clear hC hB1 hz1
          go_wp2_with fail
          refine (mul0_at L_b L_lg R_bl).mono ?_
          rintro e' W3 ⟨rfl, hC⟩
          have hB3 := hB2.trans (hC.mono hz2)
          have hz3 := hB3.size
          clear hC hB2 hz2
          go_wp2_with fail
          refine (exp_at L_bl R_y).mono ?_
          rintro e' W4 ⟨rfl, hC⟩
          have hB4 := hB3.trans (hC.mono hz3)
          have hz4 := hB4.size
          clear hC hB3 hz3
          go_wp2_with fail
          refine (wholeB_at L_b WB).mono ?_
          rintro e' W5 ⟨rfl, hC⟩
          have hB5 := hB4.trans (hC.mono hz4)
          have hz5 := hB5.size
          clear hC hB4 hz4
          go_wp2_with fail
          refine (abs_at L_b R_ab).mono ?_
          rintro e' w' ⟨rfl, hw⟩
          subst w'
          go_wp2_with fail
          refine (less_at L_ab (Lib.hid (by decide)) LB).mono ?_
          rintro e' w' ⟨rfl, hw⟩
          subst w'
          go_wp2
          go_ret
          exact ⟨by rw [HE.out]; try rfl, hB5⟩
        by_cases ho : n % 2 = 1
        · have hod : (bits .and .i64 n 1 != 0) = true := by rw [hand, ho]; rfl
          have HE : Hid (powP a b = ny) := Lib.hid (by rw [HP.out, if_neg (fun h => HA.out h.1), if_neg (fun h => by cases h.2.2), if_pos ⟨HSG.out.2 rfl, rfl, rfl, ho⟩])
          clear hand ho
          go_enter Try.func22, Try.ntmps22
          have hB0 := Below.refl w.heap.size w
          have hz0 := hB0.size
          go_wp2_with fail
          refine (abs_at L_b R_ab).mono ?_
          rintro e' w' ⟨rfl, hw⟩
          subst w'
          go_wp2_with fail
          refine (nan_at L_a C1).mono ?_
          rintro e' w' ⟨rfl, hw⟩
          subst w'
          go_wp2_with fail
          refine (nan_at L_b C2).mono ?_
          rintro e' w' ⟨rfl, hw⟩
          subst w'
          go_wp2_with fail
          refine (less_at L_a (Lib.hid (by decide)) LL).mono ?_
          rintro e' w' ⟨rfl, hw⟩
          subst w'
          go_wp2_with fail
          refine (inf_at L_b IB).mono ?_
          rintro e' w' ⟨rfl, hw⟩
          subst w'
          go_wp2_with fail
          refine (wholeB_at L_b WB).mono ?_
          rintro e' W1 ⟨rfl, hC⟩
          have hB1 := hB0.trans (hC.mono hz0)
          have hz1 := hB1.size
          clear hC hB0 hz0
          go_wp2_with fail
          refine (abs_at L_a R_aa).mono ?_
          rintro e' w' ⟨rfl, hw⟩
          subst w'
          go_wp2_with fail
          refine (log_at L_aa R_lg).mono ?_
          rintro e' W2 ⟨rfl, hC⟩
          have hB2 := hB1.trans (hC.mono hz1)
          have hz2 := hB2.size
          clear hC hB1 hz1
          go_wp2_with fail
          refine (mul0_at L_b L_lg R_bl).mono ?_
          rintro e' W3 ⟨rfl, hC⟩
          have hB3 := hB2.trans (hC.mono hz2)
          have hz3 := hB3.size
          clear hC hB2 hz2
          go_wp2_with fail
          refine (exp_at L_bl R_y).mono ?_
          rintro e' W4 ⟨rfl, hC⟩
          have hB4 := hB3.trans (hC.mono hz3)
          have hz4 := hB4.size
          clear hC hB3 hz3
          go_wp2_with fail
          refine (wholeB_at L_b WB).mono ?_
          rintro e' W5 ⟨rfl, hC⟩
          have hB5 := hB4.trans (hC.mono hz4)
          have hz5 := hB5.size
          clear hC hB4 hz4
          go_wp2_with fail
          refine (abs_at L_b R_ab).mono ?_
          rintro e' w' ⟨rfl, hw⟩
          subst w'
          go_wp2_with fail
          refine (less_at L_ab (Lib.hid (by decide)) LB).mono ?_
          rintro e' w' ⟨rfl, hw⟩
          subst w'
          go_wp2_with fail
          refine (toint_at L_b HN).mono ?_
          rintro e' W6 ⟨rfl, hC⟩
          have hB6 := hB5.trans (hC.mono hz5)
          have hz6 := hB6.size
          clear hC hB5 hz5
          go_wp2_with fail
          refine (neg_at L_y R_ny).mono ?_
          rintro e' w' ⟨rfl, hw⟩
          subst w'
          go_wp2
          go_ret
          exact ⟨by rw [HE.out]; try rfl, hB6⟩
        · have hod : (bits .and .i64 n 1 != 0) = false := by rw [hand, show n % 2 = 0 from by omega]; rfl
          have HE : Hid (powP a b = y) := Lib.hid (by rw [HP.out, if_neg (fun h => HA.out h.1), if_neg (fun h => by cases h.2.2), if_neg (fun h => ho h.2.2.2)])
          clear hand ho
          go_enter Try.func22, Try.ntmps22
          have hB0 := Below.refl w.heap.size w
          have hz0 := hB0.size
          go_wp2_with fail
          refine (abs_at L_b R_ab).mono ?_
          rintro e' w' ⟨rfl, hw⟩
          subst w'
          go_wp2_with fail
          refine (nan_at L_a C1).mono ?_
          rintro e' w' ⟨rfl, hw⟩
          subst w'
          go_wp2_with fail
          refine (nan_at L_b C2).mono ?_
          rintro e' w' ⟨rfl, hw⟩
          subst w'
          go_wp2_with fail
          refine (less_at L_a (Lib.hid (by decide)) LL).mono ?_
          rintro e' w' ⟨rfl, hw⟩
          subst w'
          go_wp2_with fail
          refine (inf_at L_b IB).mono ?_
          rintro e' w' ⟨rfl, hw⟩
          subst w'
          go_wp2_with fail
          refine (wholeB_at L_b WB).mono ?_
          rintro e' W1 ⟨rfl, hC⟩
          have hB1 := hB0.trans (hC.mono hz0)
          have hz1 := hB1.size
          clear hC hB0 hz0
          go_wp2_with fail
          refine (abs_at L_a R_aa).mono ?_
          rintro e' w' ⟨rfl, hw⟩
          subst w'
          go_wp2_with fail
          refine (log_at L_aa R_lg).mono ?_
          rintro e' W2 ⟨rfl, hC⟩
          have hB2 := hB1.trans (hC.mono hz1)
          have hz2 := hB2.size
          clear hC hB1 hz1
          go_wp2_with fail
          refine (mul0_at L_b L_lg R_bl).mono ?_
          rintro e' W3 ⟨rfl, hC⟩
          have hB3 := hB2.trans (hC.mono hz2)
          have hz3 := hB3.size
          clear hC hB2 hz2
          go_wp2_with fail
          refine (exp_at L_bl R_y).mono ?_
          rintro e' W4 ⟨rfl, hC⟩
          have hB4 := hB3.trans (hC.mono hz3)
          have hz4 := hB4.size
          clear hC hB3 hz3
          go_wp2_with fail
          refine (wholeB_at L_b WB).mono ?_
          rintro e' W5 ⟨rfl, hC⟩
          have hB5 := hB4.trans (hC.mono hz4)
          have hz5 := hB5.size
          clear hC hB4 hz4
          go_wp2_with fail
          refine (abs_at L_b R_ab).mono ?_
          rintro e' w' ⟨rfl, hw⟩
          subst w'
          go_wp2_with fail
          refine (less_at L_ab (Lib.hid (by decide)) LB).mono ?_
          rintro e' w' ⟨rfl, hw⟩
          subst w'
          go_wp2_with fail
          refine (toint_at L_b HN).mono ?_
          rintro e' W6 ⟨rfl, hC⟩
          have hB6 := hB5.trans (hC.mono hz5)
          have hz6 := hB6.size
          clear hC hB5 hz5
          go_wp2
          go_ret
          exact ⟨by rw [HE.out]; try rfl, hB6⟩
      · cases sg
        case false =>
          have HE : Hid (powP a b = y) := Lib.hid (by rw [HP.out, if_neg (fun h => HA.out h.1), if_neg (fun h => by cases h.2.1), if_neg (by rw [HSG.out]; simp)])
          go_enter Try.func22, Try.ntmps22
          have hB0 := Below.refl w.heap.size w
          have hz0 := hB0.size
          go_wp2_with fail
          refine (abs_at L_b R_ab).mono ?_
          rintro e' w' ⟨rfl, hw⟩
          subst w'
          go_wp2_with fail
          refine (nan_at L_a C1).mono ?_
          rintro e' w' ⟨rfl, hw⟩
          subst w'
          go_wp2_with fail
          refine (nan_at L_b C2).mono ?_
          rintro e' w' ⟨rfl, hw⟩
          subst w'
          go_wp2_with fail
          refine (less_at L_a (Lib.hid (by decide)) LL).mono ?_
          rintro e' w' ⟨rfl, hw⟩
          subst w'
          go_wp2_with fail
          refine (inf_at L_b IB).mono ?_
          rintro e' w' ⟨rfl, hw⟩
          subst w'
          go_wp2_with fail
          refine (abs_at L_a R_aa).mono ?_
          rintro e' w' ⟨rfl, hw⟩
          subst w'
          go_wp2_with fail
          refine (log_at L_aa R_lg).mono ?_
          rintro e' W1 ⟨rfl, hC⟩
          have hB1 := hB0.trans (hC.mono hz0)
          have hz1 := hB1.size
          clear hC hB0 hz0
          go_wp2_with fail
          refine (mul0_at L_b L_lg R_bl).mono ?_
          rintro e' W2 ⟨rfl, hC⟩
          have hB2 := hB1.trans (hC.mono hz1)
          have hz2 := hB2.size
          clear hC hB1 hz1
          go_wp2_with fail
          refine (exp_at L_bl R_y).mono ?_
          rintro e' W3 ⟨rfl, hC⟩
          have hB3 := hB2.trans (hC.mono hz2)
          have hz3 := hB3.size
          clear hC hB2 hz2
          go_wp2
          go_ret
          exact ⟨by rw [HE.out]; try rfl, hB3⟩
        cases wb
        case false =>
          have HE : Hid (powP a b = y) := Lib.hid (by rw [HP.out, if_neg (fun h => HA.out h.1), if_neg (fun h => by cases h.2.1), if_neg (by simp)])
          go_enter Try.func22, Try.ntmps22
          have hB0 := Below.refl w.heap.size w
          have hz0 := hB0.size
          go_wp2_with fail
          refine (abs_at L_b R_ab).mono ?_
          rintro e' w' ⟨rfl, hw⟩
          subst w'
          go_wp2_with fail
          refine (nan_at L_a C1).mono ?_
          rintro e' w' ⟨rfl, hw⟩
          subst w'
          go_wp2_with fail
          refine (nan_at L_b C2).mono ?_
          rintro e' w' ⟨rfl, hw⟩
          subst w'
          go_wp2_with fail
          refine (less_at L_a (Lib.hid (by decide)) LL).mono ?_
          rintro e' w' ⟨rfl, hw⟩
          subst w'
          go_wp2_with fail
          refine (inf_at L_b IB).mono ?_
          rintro e' w' ⟨rfl, hw⟩
          subst w'
          go_wp2_with fail
          refine (abs_at L_a R_aa).mono ?_
          rintro e' w' ⟨rfl, hw⟩
          subst w'
          go_wp2_with fail
          refine (log_at L_aa R_lg).mono ?_
          rintro e' W1 ⟨rfl, hC⟩
          have hB1 := hB0.trans (hC.mono hz0)
          have hz1 := hB1.size
          clear hC hB0 hz0
          go_wp2_with fail
          refine (mul0_at L_b L_lg R_bl).mono ?_
          rintro e' W2 ⟨rfl, hC⟩
          have hB2 := hB1.trans (hC.mono hz1)
          have hz2 := hB2.size
          clear hC hB1 hz1
          go_wp2_with fail
          refine (exp_at L_bl R_y).mono ?_
          rintro e' W3 ⟨rfl, hC⟩
          have hB3 := hB2.trans (hC.mono hz2)
          have hz3 := hB3.size
          clear hC hB2 hz2
          go_wp2_with fail
          refine (wholeB_at L_b WB).mono ?_
          rintro e' W4 ⟨rfl, hC⟩
          have hB4 := hB3.trans (hC.mono hz3)
          have hz4 := hB4.size
          clear hC hB3 hz3
          go_wp2
          go_ret
          exact ⟨by rw [HE.out]; try rfl, hB4⟩
        cases lb
        case false =>
          have HE : Hid (powP a b = y) := Lib.hid (by rw [HP.out, if_neg (fun h => HA.out h.1), if_neg (fun h => by cases h.2.1), if_neg (by simp)])
          go_enter Try.func22, Try.ntmps22
          have hB0 := Below.refl w.heap.size w
          have hz0 := hB0.size
          go_wp2_with fail
          refine (abs_at L_b R_ab).mono ?_
          rintro e' w' ⟨rfl, hw⟩
          subst w'
          go_wp2_with fail
          refine (nan_at L_a C1).mono ?_
          rintro e' w' ⟨rfl, hw⟩
          subst w'
          go_wp2_with fail
          refine (nan_at L_b C2).mono ?_
          rintro e' w' ⟨rfl, hw⟩
          subst w'
          go_wp2_with fail
          refine (less_at L_a (Lib.hid (by decide)) LL).mono ?_
          rintro e' w' ⟨rfl, hw⟩
          subst w'
          go_wp2_with fail
          refine (inf_at L_b IB).mono ?_
          rintro e' w' ⟨rfl, hw⟩
          subst w'
          go_wp2_with fail
          refine (abs_at L_a R_aa).mono ?_
          rintro e' w' ⟨rfl, hw⟩
          subst w'
          go_wp2_with fail
          refine (log_at L_aa R_lg).mono ?_
          rintro e' W1 ⟨rfl, hC⟩
          have hB1 := hB0.trans (hC.mono hz0)
          have hz1 := hB1.size
          clear hC hB0 hz0
          go_wp2_with fail
          refine (mul0_at L_b L_lg R_bl).mono ?_
          rintro e' W2 ⟨rfl, hC⟩
          have hB2 := hB1.trans (hC.mono hz1)
          have hz2 := hB2.size
          clear hC hB1 hz1
          go_wp2_with fail
          refine (exp_at L_bl R_y).mono ?_
          rintro e' W3 ⟨rfl, hC⟩
          have hB3 := hB2.trans (hC.mono hz2)
          have hz3 := hB3.size
          clear hC hB2 hz2
          go_wp2_with fail
          refine (wholeB_at L_b WB).mono ?_
          rintro e' W4 ⟨rfl, hC⟩
          have hB4 := hB3.trans (hC.mono hz3)
          have hz4 := hB4.size
          clear hC hB3 hz3
          go_wp2_with fail
          refine (abs_at L_b R_ab).mono ?_
          rintro e' w' ⟨rfl, hw⟩
          subst w'
          go_wp2_with fail
          refine (less_at L_ab (Lib.hid (by decide)) LB).mono ?_
          rintro e' w' ⟨rfl, hw⟩
          subst w'
          go_wp2
          go_ret
          exact ⟨by rw [HE.out]; try rfl, hB4⟩
        by_cases ho : n % 2 = 1
        · have hod : (bits .and .i64 n 1 != 0) = true := by rw [hand, ho]; rfl
          have HE : Hid (powP a b = ny) := Lib.hid (by rw [HP.out, if_neg (fun h => HA.out h.1), if_neg (fun h => by cases h.2.1), if_pos ⟨HSG.out.2 rfl, rfl, rfl, ho⟩])
          clear hand ho
          go_enter Try.func22, Try.ntmps22
          have hB0 := Below.refl w.heap.size w
          have hz0 := hB0.size
          go_wp2_with fail
          refine (abs_at L_b R_ab).mono ?_
          rintro e' w' ⟨rfl, hw⟩
          subst w'
          go_wp2_with fail
          refine (nan_at L_a C1).mono ?_
          rintro e' w' ⟨rfl, hw⟩
          subst w'
          go_wp2_with fail
          refine (nan_at L_b C2).mono ?_
          rintro e' w' ⟨rfl, hw⟩
          subst w'
          go_wp2_with fail
          refine (less_at L_a (Lib.hid (by decide)) LL).mono ?_
          rintro e' w' ⟨rfl, hw⟩
          subst w'
          go_wp2_with fail
          refine (inf_at L_b IB).mono ?_
          rintro e' w' ⟨rfl, hw⟩
          subst w'
          go_wp2_with fail
          refine (abs_at L_a R_aa).mono ?_
          rintro e' w' ⟨rfl, hw⟩
          subst w'
          go_wp2_with fail
          refine (log_at L_aa R_lg).mono ?_
          rintro e' W1 ⟨rfl, hC⟩
          have hB1 := hB0.trans (hC.mono hz0)
          have hz1 := hB1.size
          clear hC hB0 hz0
          go_wp2_with fail
          refine (mul0_at L_b L_lg R_bl).mono ?_
          rintro e' W2 ⟨rfl, hC⟩
          have hB2 := hB1.trans (hC.mono hz1)
          have hz2 := hB2.size
          clear hC hB1 hz1
          go_wp2_with fail
          refine (exp_at L_bl R_y).mono ?_
          rintro e' W3 ⟨rfl, hC⟩
          have hB3 := hB2.trans (hC.mono hz2)
          have hz3 := hB3.size
          clear hC hB2 hz2
          go_wp2_with fail
          refine (wholeB_at L_b WB).mono ?_
          rintro e' W4 ⟨rfl, hC⟩
          have hB4 := hB3.trans (hC.mono hz3)
          have hz4 := hB4.size
          clear hC hB3 hz3
          go_wp2_with fail
          refine (abs_at L_b R_ab).mono ?_
          rintro e' w' ⟨rfl, hw⟩
          subst w'
          go_wp2_with fail
          refine (less_at L_ab (Lib.hid (by decide)) LB).mono ?_
          rintro e' w' ⟨rfl, hw⟩
          subst w'
          go_wp2_with fail
          refine (toint_at L_b HN).mono ?_
          rintro e' W5 ⟨rfl, hC⟩
          have hB5 := hB4.trans (hC.mono hz4)
          have hz5 := hB5.size
          clear hC hB4 hz4
          go_wp2_with fail
          refine (neg_at L_y R_ny).mono ?_
          rintro e' w' ⟨rfl, hw⟩
          subst w'
          go_wp2
          go_ret
          exact ⟨by rw [HE.out]; try rfl, hB5⟩
        · have hod : (bits .and .i64 n 1 != 0) = false := by rw [hand, show n % 2 = 0 from by omega]; rfl
          have HE : Hid (powP a b = y) := Lib.hid (by rw [HP.out, if_neg (fun h => HA.out h.1), if_neg (fun h => by cases h.2.1), if_neg (fun h => ho h.2.2.2)])
          clear hand ho
          go_enter Try.func22, Try.ntmps22
          have hB0 := Below.refl w.heap.size w
          have hz0 := hB0.size
          go_wp2_with fail
          refine (abs_at L_b R_ab).mono ?_
          rintro e' w' ⟨rfl, hw⟩
          subst w'
          go_wp2_with fail
          refine (nan_at L_a C1).mono ?_
          rintro e' w' ⟨rfl, hw⟩
          subst w'
          go_wp2_with fail
          refine (nan_at L_b C2).mono ?_
          rintro e' w' ⟨rfl, hw⟩
          subst w'
          go_wp2_with fail
          refine (less_at L_a (Lib.hid (by decide)) LL).mono ?_
          rintro e' w' ⟨rfl, hw⟩
          subst w'
          go_wp2_with fail
          refine (inf_at L_b IB).mono ?_
          rintro e' w' ⟨rfl, hw⟩
          subst w'
          go_wp2_with fail
          refine (abs_at L_a R_aa).mono ?_
          rintro e' w' ⟨rfl, hw⟩
          subst w'
          go_wp2_with fail
          refine (log_at L_aa R_lg).mono ?_
          rintro e' W1 ⟨rfl, hC⟩
          have hB1 := hB0.trans (hC.mono hz0)
          have hz1 := hB1.size
          clear hC hB0 hz0
          go_wp2_with fail
          refine (mul0_at L_b L_lg R_bl).mono ?_
          rintro e' W2 ⟨rfl, hC⟩
          have hB2 := hB1.trans (hC.mono hz1)
          have hz2 := hB2.size
          clear hC hB1 hz1
          go_wp2_with fail
          refine (exp_at L_bl R_y).mono ?_
          rintro e' W3 ⟨rfl, hC⟩
          have hB3 := hB2.trans (hC.mono hz2)
          have hz3 := hB3.size
          clear hC hB2 hz2
          go_wp2_with fail
          refine (wholeB_at L_b WB).mono ?_
          rintro e' W4 ⟨rfl, hC⟩
          have hB4 := hB3.trans (hC.mono hz3)
          have hz4 := hB4.size
          clear hC hB3 hz3
          go_wp2_with fail
          refine (abs_at L_b R_ab).mono ?_
          rintro e' w' ⟨rfl, hw⟩
          subst w'
          go_wp2_with fail
          refine (less_at L_ab (Lib.hid (by decide)) LB).mono ?_
          rintro e' w' ⟨rfl, hw⟩
          subst w'
          go_wp2_with fail
          refine (toint_at L_b HN).mono ?_
          rintro e' W5 ⟨rfl, hC⟩
          have hB5 := hB4.trans (hC.mono hz4)
          have hz5 := hB5.size
          clear hC hB4 hz4
          go_wp2
          go_ret
          exact ⟨by rw [HE.out]; try rfl, hB5⟩
theorem pow_at {a b r : Nat} {w : World} (L_a : Hid (a < 4294967296)) (L_b : Hid (b < 4294967296)) (hr : Hid (powP a b = r)) : Calls Try.prog 22 #[.int .u32 (a : Int), .int .u32 (b : Int)] w (BR w r) := by
  have := pow_any a b w L_a L_b
  rw [hr.out] at this
  exact this
end Go.Proofs.Ytegeadkilolngaa
