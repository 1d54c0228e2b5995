/- The contracts of Exp: the program's and the document's. -/
import Derived.Test.YtegeadkilolngaaElB
namespace Go.Proofs.Ytegeadkilolngaa
open Go.RowKit

theorem wr_new (W : World) (l : List Nat) : WR (W.alloc (.cells (nums l).toArray 22)) (W.heap.size + 1) (some ⟨W.heap.size, 0, none⟩) l :=
  Reads.new_ W 22 (nums l) 1 l.length (by rw [nums_len, Nat.mul_one])
def expM (x : Nat) : Nat := scaleP (rowP (fmaP 0 (wholeP 2 (mulP 0 x 1069066811)) 962494595 (fmaP 0 (wholeP 2 (mulP 0 x 1069066811)) 3207692288 x)) [985008993, 1007192201, 1026206379, 1042983595, 1056964608, 1065353216, 1065353216]) (toIntP (wholeP 2 (mulP 0 x 1069066811)))
/-- e to the power of x -/
def expP (x : Nat) : Nat := if nanP x = true then 2143289344 else if lessP 1118925335 x = true then 2139095040 else if lessP x 3268411392 = true then 0 else expM x
theorem lt_expM (x : Nat) : expM x < 4294967296 := by
  unfold expM
  exact lt_scale _ (lt_row (by intro d hd; simp at hd; omega))
set_option maxRecDepth 100000 in
set_option maxHeartbeats 1600000 in
theorem exp_any (x : Nat) (w : World) (L_x : Hid (x < 4294967296)) : Calls Try.prog 19 #[.int .u32 (x : Int)] w (BR w (expP x)) := by
  cases c1 : nanP x
  case true =>
    have C1 := Lib.hid c1
    have HE : Hid (expP x = 2143289344) := Lib.hid (by unfold expP; rw [if_pos c1])
    clear c1
    go_enter Try.func19, Try.ntmps19
    have hB0 := Below.refl w.heap.size w
    have hz0 := hB0.size
    go_wp2_with fail
    refine (nan_at L_x C1).mono ?_
    rintro e' w' ⟨rfl, hw⟩
    subst w'
    go_wp2
    go_ret
    exact ⟨by rw [HE.out]; try rfl, hB0⟩
  have C1 := Lib.hid c1
  cases c2 : lessP 1118925335 x
  case true =>
    have C2 := Lib.hid c2
    have HE : Hid (expP x = 2139095040) := Lib.hid (by unfold expP; rw [if_neg (by rw [c1]; decide), if_pos c2])
    clear c1 c2
    go_enter Try.func19, Try.ntmps19
    have hB0 := Below.refl w.heap.size w
    have hz0 := hB0.size
    go_wp2_with fail
    refine (nan_at L_x C1).mono ?_
    rintro e' w' ⟨rfl, hw⟩
    subst w'
    go_wp2_with fail
    refine (less_at (Lib.hid (by decide)) L_x C2).mono ?_
    rintro e' w' ⟨rfl, hw⟩
    subst w'
    go_wp2
    go_ret
    exact ⟨by rw [HE.out]; try rfl, hB0⟩
  have C2 := Lib.hid c2
  cases c3 : lessP x 3268411392
  case true =>
    have C3 := Lib.hid c3
    have HE : Hid (expP x = 0) := Lib.hid (by unfold expP; rw [if_neg (by rw [c1]; decide), if_neg (by rw [c2]; decide), if_pos c3])
    clear c1 c2 c3
    go_enter Try.func19, Try.ntmps19
    have hB0 := Below.refl w.heap.size w
    have hz0 := hB0.size
    go_wp2_with fail
    refine (nan_at L_x C1).mono ?_
    rintro e' w' ⟨rfl, hw⟩
    subst w'
    go_wp2_with fail
    refine (less_at (Lib.hid (by decide)) L_x C2).mono ?_
    rintro e' w' ⟨rfl, hw⟩
    subst w'
    go_wp2_with fail
    refine (less_at L_x (Lib.hid (by decide)) C3).mono ?_
    rintro e' w' ⟨rfl, hw⟩
    subst w'
    go_wp2
    go_ret
    exact ⟨by rw [HE.out]; try rfl, hB0⟩
  have C3 := Lib.hid c3
  have NL : Hid (negP 3109978243 = 962494595) := Lib.hid (by decide)
  have NH : Hid (negP 1060208640 = 3207692288) := Lib.hid (by decide)
  obtain ⟨a1, e_a1⟩ : ∃ v, mulP 0 x 1069066811 = v := ⟨_, rfl⟩
  have L_a1 : Hid (a1 < 4294967296) := Lib.hid (by rw [← e_a1]; exact (okR.mul 0 x 1069066811).1)
  have R_a1 := Lib.hid e_a1
  obtain ⟨k, e_k⟩ : ∃ v, wholeP 2 a1 = v := ⟨_, rfl⟩
  have L_k : Hid (k < 4294967296) := Lib.hid (by rw [← e_k]; exact lt_whole 2 L_a1.out)
  have R_k := Lib.hid e_k
  obtain ⟨r1, e_r1⟩ : ∃ v, fmaP 0 k 3207692288 x = v := ⟨_, rfl⟩
  have L_r1 : Hid (r1 < 4294967296) := Lib.hid (by rw [← e_r1]; exact lt_fma L_x.out)
  have R_r1 := Lib.hid e_r1
  obtain ⟨r2, e_r2⟩ : ∃ v, fmaP 0 k 962494595 r1 = v := ⟨_, rfl⟩
  have L_r2 : Hid (r2 < 4294967296) := Lib.hid (by rw [← e_r2]; exact lt_fma L_r1.out)
  have R_r2 := Lib.hid e_r2
  obtain ⟨p, e_p⟩ : ∃ v, rowP r2 [985008993, 1007192201, 1026206379, 1042983595, 1056964608, 1065353216, 1065353216] = v := ⟨_, rfl⟩
  have L_p : Hid (p < 4294967296) := Lib.hid (by rw [← e_p]; exact lt_row (by intro d hd; simp at hd; omega))
  have R_p := Lib.hid e_p
  obtain ⟨n, e_n⟩ : ∃ v, toIntP k = v := ⟨_, rfl⟩
  have R_n := Lib.hid e_n
  obtain ⟨y, e_y⟩ : ∃ v, scaleP p n = v := ⟨_, rfl⟩
  have L_y : Hid (y < 4294967296) := Lib.hid (by rw [← e_y]; exact lt_scale n L_p.out)
  have R_y := Lib.hid e_y
  have HE : Hid (expP x = y) := Lib.hid (by
    unfold expP
    rw [if_neg (by rw [c1]; decide), if_neg (by rw [c2]; decide), if_neg (by rw [c3]; decide)]
    unfold expM
    rw [e_a1, e_k, e_r1, e_r2, e_p, e_n, e_y])
  clear c1 c2 c3 e_a1 e_k e_r1 e_r2 e_p e_n e_y
  go_enter Try.func19, Try.ntmps19
  have hB0 := Below.refl w.heap.size w
  have hz0 := hB0.size
  go_wp2_with fail
  refine (nan_at L_x C1).mono ?_
  rintro e' w' ⟨rfl, hw⟩
  subst w'
  go_wp2_with fail
  refine (less_at (Lib.hid (by decide)) L_x C2).mono ?_
  rintro e' w' ⟨rfl, hw⟩
  subst w'
  go_wp2_with fail
  refine (less_at L_x (Lib.hid (by decide)) C3).mono ?_
  rintro e' w' ⟨rfl, hw⟩
  subst w'
  go_wp2_with fail
  refine (mul0_at L_x (Lib.hid (by decide)) R_a1).mono ?_
  rintro e' W1 ⟨rfl, hC⟩
  have hB1 := hB0.trans (hC.mono hz0)
  have hz1 := hB1.size
  clear hC hB0 hz0
  go_wp2_with fail
  refine (even_at L_a1 R_k).mono ?_
  rintro e' W2 ⟨rfl, hC⟩
  have hB2 := hB1.trans (hC.mono hz1)
  have hz2 := hB2.size
  clear hC hB1 hz1
  go_wp2_with fail
  refine (neg_at (a := 3109978243) (Lib.hid (by decide)) NL).mono ?_
  rintro e' w' ⟨rfl, hw⟩
  subst w'
  go_wp2_with fail
  refine (neg_at (a := 1060208640) (Lib.hid (by decide)) NH).mono ?_
  rintro e' w' ⟨rfl, hw⟩
  subst w'
  go_wp2_with fail
  refine (fma0_at L_k (Lib.hid (by decide)) L_x R_r1).mono ?_
  rintro e' W3 ⟨rfl, hC⟩
  have hB3 := hB2.trans (hC.mono hz2)
  have hz3 := hB3.size
  clear hC hB2 hz2
  go_wp2_with fail
  refine (fma0_at L_k (Lib.hid (by decide)) L_r1 R_r2).mono ?_
  rintro e' W4 ⟨rfl, hC⟩
  have hB4 := hB3.trans (hC.mono hz3)
  have hz4 := hB4.size
  clear hC hB3 hz3
  go_wp2_with fail
  refine (row_any (l := [1007192201, 1026206379, 1042983595, 1056964608, 1065353216, 1065353216]) (c := 985008993) (B := W4.heap.size + 1) L_r2 (Lib.hid rfl) (by decide) (by decide) (by decide) (by simp) (wr_new W4 [985008993, 1007192201, 1026206379, 1042983595, 1056964608, 1065353216, 1065353216]) (Lib.hid (fun d hd => by simp at hd; omega))).mono ?_
  rintro e' W5 ⟨rfl, hC⟩
  rw [R_p.out]
  have hB5 := (hB4.alloc hz4 _).trans (hC.mono (by simp; omega))
  have hz5 := hB5.size
  clear hC hB4 hz4
  go_wp2_with fail
  refine (toint_at L_k R_n).mono ?_
  rintro e' W6 ⟨rfl, hC⟩
  have hB6 := hB5.trans (hC.mono hz5)
  have hz6 := hB6.size
  clear hC hB5 hz5
  go_wp2_with fail
  refine (scale_at L_p R_y).mono ?_
  rintro e' W7 ⟨rfl, hC⟩
  have hB7 := hB6.trans (hC.mono hz6)
  have hz7 := hB7.size
  clear hC hB6 hz6
  go_wp2
  go_ret
  exact ⟨by rw [HE.out]; try rfl, hB7⟩
theorem lt_exp (x : Nat) : expP x < 4294967296 := by
  unfold expP
  split
  · decide
  · split
    · decide
    · split
      · decide
      · exact lt_expM x
theorem exp_at {x r : Nat} {w : World} (L_x : Hid (x < 4294967296)) (hr : Hid (expP x = r)) : Calls Try.prog 19 #[.int .u32 (x : Int)] w (BR w r) := by
  have := exp_any x w L_x
  rw [hr.out] at this
  exact this
end Go.Proofs.Ytegeadkilolngaa
