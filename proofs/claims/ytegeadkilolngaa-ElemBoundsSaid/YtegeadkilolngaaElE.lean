/- The contracts of Tanh, Erf, Sigmoid, Softplus: the program's and the document's. -/
import Derived.Test.YtegeadkilolngaaElD
namespace Go.Proofs.Ytegeadkilolngaa
open Go.RowKit

def tanhM (x : Nat) : Nat := signedF (heldF (addP 0 1065353216 (negP (divP 0 1073741824 (addP 0 (expP (mulP 0 1073741824 (absP x))) 1065353216)))) 0 1065353216) x
def tanhP (x : Nat) : Nat := if nanP x = true then 2143289344 else if lessP (absP x) 964689920 = true then x else tanhM x
set_option maxRecDepth 100000 in
set_option maxHeartbeats 1600000 in
theorem tanh_any (x : Nat) (w : World) (L_x : Hid (x < 4294967296)) : Calls Try.prog 13 #[.int .u32 (x : Int)] w (BR w (tanhP x)) := by
  obtain ⟨a, e_a⟩ : ∃ v, absP x = v := ⟨_, rfl⟩
  have R_a := Lib.hid e_a
  have L_a : Hid (a < 4294967296) := Lib.hid (by rw [← e_a]; exact lt_abs x)
  cases c1 : nanP x
  case true =>
    have C1 := Lib.hid c1
    have pc : nanP x = true := by exact c1

    have HE : Hid (tanhP x = 2143289344) := Lib.hid (by unfold tanhP; rw [if_pos pc])
    clear pc c1 e_a 
    go_enter Try.func13, Try.ntmps13
    have hB0 := Below.refl w.heap.size w
    have hz0 := hB0.size
    go_wp2_with fail
    refine (abs_at L_x R_a).mono ?_
    rintro e' w' ⟨rfl, hw⟩
    subst w'
    go_wp2_with fail
    refine (nan_at L_x C1).mono ?_
    rintro e' w' ⟨rfl, hw⟩
    subst w'
    go_wp2
    go_ret
    exact ⟨by rw [HE.out]; try rfl, hB0⟩
  have C1 := Lib.hid c1
  have n1 : ¬ (nanP x = true) := by rw [c1]; decide
  cases c2 : lessP a 964689920
  case true =>
    have C2 := Lib.hid c2
    have pc : lessP (absP x) 964689920 = true := by rw [e_a]; exact c2

    have HE : Hid (tanhP x = x) := Lib.hid (by unfold tanhP; rw [if_neg n1, if_pos pc])
    clear pc c1 c2 e_a n1
    go_enter Try.func13, Try.ntmps13
    have hB0 := Below.refl w.heap.size w
    have hz0 := hB0.size
    go_wp2_with fail
    refine (abs_at L_x R_a).mono ?_
    rintro e' w' ⟨rfl, hw⟩
    subst w'
    go_wp2_with fail
    refine (nan_at L_x C1).mono ?_
    rintro e' w' ⟨rfl, hw⟩
    subst w'
    go_wp2_with fail
    refine (less_at L_a (Lib.hid (by decide)) C2).mono ?_
    rintro e' w' ⟨rfl, hw⟩
    subst w'
    go_wp2
    go_ret
    exact ⟨by rw [HE.out]; try rfl, hB0⟩
  have C2 := Lib.hid c2
  have n2 : ¬ (lessP (absP x) 964689920 = true) := by rw [e_a, c2]; decide
  obtain ⟨b, e_b⟩ : ∃ v, mulP 0 1073741824 a = v := ⟨_, rfl⟩
  have L_b : Hid (b < 4294967296) := Lib.hid (by rw [← e_b]; exact (okR.mul 0 1073741824 a).1)
  have R_b := Lib.hid e_b
  obtain ⟨c, e_c⟩ : ∃ v, expP b = v := ⟨_, rfl⟩
  have L_c : Hid (c < 4294967296) := Lib.hid (by rw [← e_c]; exact lt_exp b)
  have R_c := Lib.hid e_c
  obtain ⟨d, e_d⟩ : ∃ v, addP 0 c 1065353216 = v := ⟨_, rfl⟩
  have L_d : Hid (d < 4294967296) := Lib.hid (by rw [← e_d]; exact (okR.add 0 L_c.out (Lib.hid (by decide)).out).1)
  have R_d := Lib.hid e_d
  obtain ⟨q, e_q⟩ : ∃ v, divP 0 1073741824 d = v := ⟨_, rfl⟩
  have L_q : Hid (q < 4294967296) := Lib.hid (by rw [← e_q]; exact (okR.div 0 1073741824 d).1)
  have R_q := Lib.hid e_q
  obtain ⟨t, e_t⟩ : ∃ v, addP 0 1065353216 (negP q) = v := ⟨_, rfl⟩
  have L_t : Hid (t < 4294967296) := Lib.hid (by rw [← e_t]; exact (okR.add 0 (Lib.hid (by decide)).out (neg_lt L_q.out)).1)
  have R_t := Lib.hid e_t
  obtain ⟨h, e_h⟩ : ∃ v, heldF t 0 1065353216 = v := ⟨_, rfl⟩
  have L_h : Hid (h < 4294967296) := Lib.hid (by rw [← e_h]; exact lt_held L_t.out (Lib.hid (by decide)).out (Lib.hid (by decide)).out)
  have R_h := Lib.hid e_h
  obtain ⟨y, e_y⟩ : ∃ v, signedF h x = v := ⟨_, rfl⟩
  have L_y : Hid (y < 4294967296) := Lib.hid (by rw [← e_y]; exact lt_signed L_h.out)
  have R_y := Lib.hid e_y
  have HE : Hid (tanhP x = y) := Lib.hid (by
    unfold tanhP
    rw [if_neg n1, if_neg n2]
    unfold tanhM
    rw [e_a, e_b, e_c, e_d, e_q, e_t, e_h, e_y])
  clear c1 c2 n1 n2 e_a e_b e_c e_d e_q e_t e_h e_y
  go_enter Try.func13, Try.ntmps13
  have hB0 := Below.refl w.heap.size w
  have hz0 := hB0.size
  go_wp2_with fail
  refine (abs_at L_x R_a).mono ?_
  rintro e' w' ⟨rfl, hw⟩
  subst w'
  go_wp2_with fail
  refine (nan_at L_x C1).mono ?_
  rintro e' w' ⟨rfl, hw⟩
  subst w'
  go_wp2_with fail
  refine (less_at L_a (Lib.hid (by decide)) C2).mono ?_
  rintro e' w' ⟨rfl, hw⟩
  subst w'
  go_wp2_with fail
  refine (mul0_at (Lib.hid (by decide)) L_a R_b).mono ?_
  rintro e' W1 ⟨rfl, hC⟩
  have hB1 := hB0.trans (hC.mono hz0)
  have hz1 := hB1.size
  clear hC hB0 hz0
  go_wp2_with fail
  refine (exp_at L_b R_c).mono ?_
  rintro e' W2 ⟨rfl, hC⟩
  have hB2 := hB1.trans (hC.mono hz1)
  have hz2 := hB2.size
  clear hC hB1 hz1
  go_wp2_with fail
  refine (add0_at L_c (Lib.hid (by decide)) R_d).mono ?_
  rintro e' W3 ⟨rfl, hC⟩
  have hB3 := hB2.trans (hC.mono hz2)
  have hz3 := hB3.size
  clear hC hB2 hz2
  go_wp2_with fail
  refine (div0_at (Lib.hid (by decide)) L_d R_q).mono ?_
  rintro e' W4 ⟨rfl, hC⟩
  have hB4 := hB3.trans (hC.mono hz3)
  have hz4 := hB4.size
  clear hC hB3 hz3
  go_wp2_with fail
  refine (sub0_at (Lib.hid (by decide)) L_q R_t).mono ?_
  rintro e' W5 ⟨rfl, hC⟩
  have hB5 := hB4.trans (hC.mono hz4)
  have hz5 := hB5.size
  clear hC hB4 hz4
  go_wp2_with fail
  refine (held_at L_t (Lib.hid (by decide)) (Lib.hid (by decide)) R_h).mono ?_
  rintro e' w' ⟨rfl, hw⟩
  subst w'
  go_wp2_with fail
  refine (signed_at L_h L_x R_y).mono ?_
  rintro e' w' ⟨rfl, hw⟩
  subst w'
  go_wp2
  go_ret
  exact ⟨by rw [HE.out]; try rfl, hB5⟩
theorem tanh_at {x r : Nat} {w : World} (L_x : Hid (x < 4294967296)) (hr : Hid (tanhP x = r)) : Calls Try.prog 13 #[.int .u32 (x : Int)] w (BR w r) := by
  have := tanh_any x w L_x
  rw [hr.out] at this
  exact this
def erfM (x : Nat) : Nat := signedF (heldF (fmaP 0 (negP (mulP 0 (divP 0 1065353216 (fmaP 0 1051179525 (absP x) 1065353216)) (rowP (divP 0 1065353216 (fmaP 0 1051179525 (absP x) 1065353216)) [1065868322, 3216638179, 1068888291, 3197217166, 1048738054]))) (expP (negP (mulP 0 (absP x) (absP x)))) 1065353216) 0 1065353216) x
def erfP (x : Nat) : Nat := if nanP x = true then 2143289344 else if absP x = 0 then x else if lessP 1082130432 (absP x) = true then signedF 1065353216 x else erfM x
set_option maxRecDepth 100000 in
set_option maxHeartbeats 1600000 in
theorem erf_any (x : Nat) (w : World) (L_x : Hid (x < 4294967296)) : Calls Try.prog 14 #[.int .u32 (x : Int)] w (BR w (erfP x)) := by
  obtain ⟨a, e_a⟩ : ∃ v, absP x = v := ⟨_, rfl⟩
  have R_a := Lib.hid e_a
  have L_a : Hid (a < 4294967296) := Lib.hid (by rw [← e_a]; exact lt_abs x)
  cases c1 : nanP x
  case true =>
    have C1 := Lib.hid c1
    have pc : nanP x = true := by exact c1

    have HE : Hid (erfP x = 2143289344) := Lib.hid (by unfold erfP; rw [if_pos pc])
    clear pc c1 e_a 
    go_enter Try.func14, Try.ntmps14
    have hB0 := Below.refl w.heap.size w
    have hz0 := hB0.size
    go_wp2_with fail
    refine (abs_at L_x R_a).mono ?_
    rintro e' w' ⟨rfl, hw⟩
    subst w'
    go_wp2_with fail
    refine (nan_at L_x C1).mono ?_
    rintro e' w' ⟨rfl, hw⟩
    subst w'
    go_wp2
    go_ret
    exact ⟨by rw [HE.out]; try rfl, hB0⟩
  have C1 := Lib.hid c1
  have n1 : ¬ (nanP x = true) := by rw [c1]; decide
  by_cases c2 : a = 0
  case pos =>
    have b0 : ((a : Int) == 0) = true := int_eq (y := 0) c2
    have pc : absP x = 0 := e_a.trans c2

    have HE : Hid (erfP x = x) := Lib.hid (by unfold erfP; rw [if_neg n1, if_pos pc])
    clear pc c1 c2 e_a n1
    go_enter Try.func14, Try.ntmps14
    have hB0 := Below.refl w.heap.size w
    have hz0 := hB0.size
    go_wp2_with fail
    refine (abs_at L_x R_a).mono ?_
    rintro e' w' ⟨rfl, hw⟩
    subst w'
    go_wp2_with fail
    refine (nan_at L_x C1).mono ?_
    rintro e' w' ⟨rfl, hw⟩
    subst w'
    go_wp2
    go_ret
    exact ⟨by rw [HE.out]; try rfl, hB0⟩
  have b0 : ((a : Int) == 0) = false := int_ne (y := 0) c2
  have n2 : ¬ (absP x = 0) := fun h => c2 (e_a.symm.trans h)
  cases c3 : lessP 1082130432 a
  case true =>
    have C3 := Lib.hid c3
    have pc : lessP 1082130432 (absP x) = true := by rw [e_a]; exact c3
    obtain ⟨sg, e_sg⟩ : ∃ v, signedF 1065353216 x = v := ⟨_, rfl⟩
    have L_sg : Hid (sg < 4294967296) := Lib.hid (by rw [← e_sg]; exact lt_signed (Lib.hid (by decide)).out)
    have R_sg := Lib.hid e_sg
    have HE : Hid (erfP x = sg) := Lib.hid (by unfold erfP; rw [if_neg n1, if_neg n2, if_pos pc]; rw [e_sg])
    clear pc c1 c2 c3 e_a n1 n2 e_sg
    go_enter Try.func14, Try.ntmps14
    have hB0 := Below.refl w.heap.size w
    have hz0 := hB0.size
    go_wp2_with fail
    refine (abs_at L_x R_a).mono ?_
    rintro e' w' ⟨rfl, hw⟩
    subst w'
    go_wp2_with fail
    refine (nan_at L_x C1).mono ?_
    rintro e' w' ⟨rfl, hw⟩
    subst w'
    go_wp2_with fail
    refine (less_at (Lib.hid (by decide)) L_a C3).mono ?_
    rintro e' w' ⟨rfl, hw⟩
    subst w'
    go_wp2_with fail
    refine (signed_at (Lib.hid (by decide)) L_x R_sg).mono ?_
    rintro e' w' ⟨rfl, hw⟩
    subst w'
    go_wp2
    go_ret
    exact ⟨by rw [HE.out]; try rfl, hB0⟩
  have C3 := Lib.hid c3
  have n3 : ¬ (lessP 1082130432 (absP x) = true) := by rw [e_a, c3]; decide
  obtain ⟨u, e_u⟩ : ∃ v, fmaP 0 1051179525 a 1065353216 = v := ⟨_, rfl⟩
  have L_u : Hid (u < 4294967296) := Lib.hid (by rw [← e_u]; exact lt_fma (Lib.hid (by decide)).out)
  have R_u := Lib.hid e_u
  obtain ⟨t, e_t⟩ : ∃ v, divP 0 1065353216 u = v := ⟨_, rfl⟩
  have L_t : Hid (t < 4294967296) := Lib.hid (by rw [← e_t]; exact (okR.div 0 1065353216 u).1)
  have R_t := Lib.hid e_t
  obtain ⟨rv, e_rv⟩ : ∃ v, rowP t [1065868322, 3216638179, 1068888291, 3197217166, 1048738054] = v := ⟨_, rfl⟩
  have L_rv : Hid (rv < 4294967296) := Lib.hid (by rw [← e_rv]; exact lt_row (by intro d hd; simp at hd; omega))
  have R_rv := Lib.hid e_rv
  obtain ⟨p, e_p⟩ : ∃ v, mulP 0 t rv = v := ⟨_, rfl⟩
  have L_p : Hid (p < 4294967296) := Lib.hid (by rw [← e_p]; exact (okR.mul 0 t rv).1)
  have R_p := Lib.hid e_p
  obtain ⟨q, e_q⟩ : ∃ v, negP p = v := ⟨_, rfl⟩
  have L_q : Hid (q < 4294967296) := Lib.hid (by rw [← e_q]; exact neg_lt L_p.out)
  have R_q := Lib.hid e_q
  obtain ⟨aa, e_aa⟩ : ∃ v, mulP 0 a a = v := ⟨_, rfl⟩
  have L_aa : Hid (aa < 4294967296) := Lib.hid (by rw [← e_aa]; exact (okR.mul 0 a a).1)
  have R_aa := Lib.hid e_aa
  obtain ⟨na, e_na⟩ : ∃ v, negP aa = v := ⟨_, rfl⟩
  have L_na : Hid (na < 4294967296) := Lib.hid (by rw [← e_na]; exact neg_lt L_aa.out)
  have R_na := Lib.hid e_na
  obtain ⟨ex, e_ex⟩ : ∃ v, expP na = v := ⟨_, rfl⟩
  have L_ex : Hid (ex < 4294967296) := Lib.hid (by rw [← e_ex]; exact lt_exp na)
  have R_ex := Lib.hid e_ex
  obtain ⟨r, e_r⟩ : ∃ v, fmaP 0 q ex 1065353216 = v := ⟨_, rfl⟩
  have L_r : Hid (r < 4294967296) := Lib.hid (by rw [← e_r]; exact lt_fma (Lib.hid (by decide)).out)
  have R_r := Lib.hid e_r
  obtain ⟨h, e_h⟩ : ∃ v, heldF r 0 1065353216 = v := ⟨_, rfl⟩
  have L_h : Hid (h < 4294967296) := Lib.hid (by rw [← e_h]; exact lt_held L_r.out (Lib.hid (by decide)).out (Lib.hid (by decide)).out)
  have R_h := Lib.hid e_h
  obtain ⟨y, e_y⟩ : ∃ v, signedF h x = v := ⟨_, rfl⟩
  have L_y : Hid (y < 4294967296) := Lib.hid (by rw [← e_y]; exact lt_signed L_h.out)
  have R_y := Lib.hid e_y
  have HE : Hid (erfP x = y) := Lib.hid (by
    unfold erfP
    rw [if_neg n1, if_neg n2, if_neg n3]
    unfold erfM
    rw [e_a, e_u, e_t, e_rv, e_p, e_q, e_aa, e_na, e_ex, e_r, e_h, e_y])
  clear c1 c2 c3 n1 n2 n3 e_a e_u e_t e_rv e_p e_q e_aa e_na e_ex e_r e_h e_y
  go_enter Try.func14, Try.ntmps14
  have hB0 := Below.refl w.heap.size w
  have hz0 := hB0.size
  go_wp2_with fail
  refine (abs_at L_x R_a).mono ?_
  rintro e' w' ⟨rfl, hw⟩
  subst w'
  go_wp2_with fail
  refine (nan_at L_x C1).mono ?_
  rintro e' w' ⟨rfl, hw⟩
  subst w'
  go_wp2_with fail
  refine (less_at (Lib.hid (by decide)) L_a C3).mono ?_
  rintro e' w' ⟨rfl, hw⟩
  subst w'
  go_wp2_with fail
  refine (fma0_at (Lib.hid (by decide)) L_a (Lib.hid (by decide)) R_u).mono ?_
  rintro e' W1 ⟨rfl, hC⟩
  have hB1 := hB0.trans (hC.mono hz0)
  have hz1 := hB1.size
  clear hC hB0 hz0
  go_wp2_with fail
  refine (div0_at (Lib.hid (by decide)) L_u R_t).mono ?_
  rintro e' W2 ⟨rfl, hC⟩
  have hB2 := hB1.trans (hC.mono hz1)
  have hz2 := hB2.size
  clear hC hB1 hz1
  go_wp2_with fail
  refine (row_any (l := [3216638179, 1068888291, 3197217166, 1048738054]) (c := 1065868322) (B := W2.heap.size + 1) L_t (Lib.hid rfl) (by decide) (by decide) (by decide) (by simp) (wr_new W2 [1065868322, 3216638179, 1068888291, 3197217166, 1048738054]) (Lib.hid (fun d hd => by simp at hd; omega))).mono ?_
  rintro e' W3 ⟨rfl, hC⟩
  rw [R_rv.out]
  have hB3 := (hB2.alloc hz2 _).trans (hC.mono (by simp; omega))
  have hz3 := hB3.size
  clear hC hB2 hz2
  go_wp2_with fail
  refine (mul0_at L_t L_rv R_p).mono ?_
  rintro e' W4 ⟨rfl, hC⟩
  have hB4 := hB3.trans (hC.mono hz3)
  have hz4 := hB4.size
  clear hC hB3 hz3
  go_wp2_with fail
  refine (neg_at L_p R_q).mono ?_
  rintro e' w' ⟨rfl, hw⟩
  subst w'
  go_wp2_with fail
  refine (mul0_at L_a L_a R_aa).mono ?_
  rintro e' W5 ⟨rfl, hC⟩
  have hB5 := hB4.trans (hC.mono hz4)
  have hz5 := hB5.size
  clear hC hB4 hz4
  go_wp2_with fail
  refine (neg_at L_aa R_na).mono ?_
  rintro e' w' ⟨rfl, hw⟩
  subst w'
  go_wp2_with fail
  refine (exp_at L_na R_ex).mono ?_
  rintro e' W6 ⟨rfl, hC⟩
  have hB6 := hB5.trans (hC.mono hz5)
  have hz6 := hB6.size
  clear hC hB5 hz5
  go_wp2_with fail
  refine (fma0_at L_q L_ex (Lib.hid (by decide)) R_r).mono ?_
  rintro e' W7 ⟨rfl, hC⟩
  have hB7 := hB6.trans (hC.mono hz6)
  have hz7 := hB7.size
  clear hC hB6 hz6
  go_wp2_with fail
  refine (held_at L_r (Lib.hid (by decide)) (Lib.hid (by decide)) R_h).mono ?_
  rintro e' w' ⟨rfl, hw⟩
  subst w'
  go_wp2_with fail
  refine (signed_at L_h L_x R_y).mono ?_
  rintro e' w' ⟨rfl, hw⟩
  subst w'
  go_wp2
  go_ret
  exact ⟨by rw [HE.out]; try rfl, hB7⟩
theorem erf_at {x r : Nat} {w : World} (L_x : Hid (x < 4294967296)) (hr : Hid (erfP x = r)) : Calls Try.prog 14 #[.int .u32 (x : Int)] w (BR w r) := by
  have := erf_any x w L_x
  rw [hr.out] at this
  exact this
def sigmM (x : Nat) : Nat := heldF (divP 0 1065353216 (addP 0 1065353216 (expP (negP x)))) 0 1065353216
def sigmP (x : Nat) : Nat := if nanP x = true then 2143289344 else sigmM x
set_option maxRecDepth 100000 in
set_option maxHeartbeats 1600000 in
theorem sigm_any (x : Nat) (w : World) (L_x : Hid (x < 4294967296)) : Calls Try.prog 18 #[.int .u32 (x : Int)] w (BR w (sigmP x)) := by
  cases c1 : nanP x
  case true =>
    have C1 := Lib.hid c1
    have pc : nanP x = true := by exact c1

    have HE : Hid (sigmP x = 2143289344) := Lib.hid (by unfold sigmP; rw [if_pos pc])
    clear pc c1 
    go_enter Try.func18, Try.ntmps18
    have hB0 := Below.refl w.heap.size w
    have hz0 := hB0.size
    go_wp2_with fail
    refine (nan_at L_x C1).mono ?_
    rintro e' w' ⟨rfl, hw⟩
    subst w'
    go_wp2
    go_ret
    exact ⟨by rw [HE.out]; try rfl, hB0⟩
  have C1 := Lib.hid c1
  have n1 : ¬ (nanP x = true) := by rw [c1]; decide
  obtain ⟨b, e_b⟩ : ∃ v, negP x = v := ⟨_, rfl⟩
  have L_b : Hid (b < 4294967296) := Lib.hid (by rw [← e_b]; exact neg_lt L_x.out)
  have R_b := Lib.hid e_b
  obtain ⟨c, e_c⟩ : ∃ v, expP b = v := ⟨_, rfl⟩
  have L_c : Hid (c < 4294967296) := Lib.hid (by rw [← e_c]; exact lt_exp b)
  have R_c := Lib.hid e_c
  obtain ⟨d, e_d⟩ : ∃ v, addP 0 1065353216 c = v := ⟨_, rfl⟩
  have L_d : Hid (d < 4294967296) := Lib.hid (by rw [← e_d]; exact (okR.add 0 (Lib.hid (by decide)).out L_c.out).1)
  have R_d := Lib.hid e_d
  obtain ⟨q, e_q⟩ : ∃ v, divP 0 1065353216 d = v := ⟨_, rfl⟩
  have L_q : Hid (q < 4294967296) := Lib.hid (by rw [← e_q]; exact (okR.div 0 1065353216 d).1)
  have R_q := Lib.hid e_q
  obtain ⟨y, e_y⟩ : ∃ v, heldF q 0 1065353216 = v := ⟨_, rfl⟩
  have L_y : Hid (y < 4294967296) := Lib.hid (by rw [← e_y]; exact lt_held L_q.out (Lib.hid (by decide)).out (Lib.hid (by decide)).out)
  have R_y := Lib.hid e_y
  have HE : Hid (sigmP x = y) := Lib.hid (by
    unfold sigmP
    rw [if_neg n1]
    unfold sigmM
    rw [e_b, e_c, e_d, e_q, e_y])
  clear c1 n1 e_b e_c e_d e_q e_y
  go_enter Try.func18, Try.ntmps18
  have hB0 := Below.refl w.heap.size w
  have hz0 := hB0.size
  go_wp2_with fail
  refine (nan_at L_x C1).mono ?_
  rintro e' w' ⟨rfl, hw⟩
  subst w'
  go_wp2_with fail
  refine (neg_at L_x R_b).mono ?_
  rintro e' w' ⟨rfl, hw⟩
  subst w'
  go_wp2_with fail
  refine (exp_at L_b R_c).mono ?_
  rintro e' W1 ⟨rfl, hC⟩
  have hB1 := hB0.trans (hC.mono hz0)
  have hz1 := hB1.size
  clear hC hB0 hz0
  go_wp2_with fail
  refine (add0_at (Lib.hid (by decide)) L_c R_d).mono ?_
  rintro e' W2 ⟨rfl, hC⟩
  have hB2 := hB1.trans (hC.mono hz1)
  have hz2 := hB2.size
  clear hC hB1 hz1
  go_wp2_with fail
  refine (div0_at (Lib.hid (by decide)) L_d R_q).mono ?_
  rintro e' W3 ⟨rfl, hC⟩
  have hB3 := hB2.trans (hC.mono hz2)
  have hz3 := hB3.size
  clear hC hB2 hz2
  go_wp2_with fail
  refine (held_at L_q (Lib.hid (by decide)) (Lib.hid (by decide)) R_y).mono ?_
  rintro e' w' ⟨rfl, hw⟩
  subst w'
  go_wp2
  go_ret
  exact ⟨by rw [HE.out]; try rfl, hB3⟩
theorem sigm_at {x r : Nat} {w : World} (L_x : Hid (x < 4294967296)) (hr : Hid (sigmP x = r)) : Calls Try.prog 18 #[.int .u32 (x : Int)] w (BR w r) := by
  have := sigm_any x w L_x
  rw [hr.out] at this
  exact this
def softpM (x : Nat) : Nat := addP 0 (maxF x 0) (logP (addP 0 1065353216 (expP (negP (absP x)))))
def softpP (x : Nat) : Nat := if nanP x = true then 2143289344 else softpM x
set_option maxRecDepth 100000 in
set_option maxHeartbeats 1600000 in
theorem softp_any (x : Nat) (w : World) (L_x : Hid (x < 4294967296)) : Calls Try.prog 21 #[.int .u32 (x : Int)] w (BR w (softpP x)) := by
  cases c1 : nanP x
  case true =>
    have C1 := Lib.hid c1
    have pc : nanP x = true := by exact c1

    have HE : Hid (softpP x = 2143289344) := Lib.hid (by unfold softpP; rw [if_pos pc])
    clear pc c1 
    go_enter Try.func21, Try.ntmps21
    have hB0 := Below.refl w.heap.size w
    have hz0 := hB0.size
    go_wp2_with fail
    refine (nan_at L_x C1).mono ?_
    rintro e' w' ⟨rfl, hw⟩
    subst w'
    go_wp2
    go_ret
    exact ⟨by rw [HE.out]; try rfl, hB0⟩
  have C1 := Lib.hid c1
  have n1 : ¬ (nanP x = true) := by rw [c1]; decide
  obtain ⟨mx, e_mx⟩ : ∃ v, maxF x 0 = v := ⟨_, rfl⟩
  have L_mx : Hid (mx < 4294967296) := Lib.hid (by rw [← e_mx]; exact lt_max L_x.out (Lib.hid (by decide)).out)
  have R_mx := Lib.hid e_mx
  obtain ⟨a1, e_a1⟩ : ∃ v, absP x = v := ⟨_, rfl⟩
  have L_a1 : Hid (a1 < 4294967296) := Lib.hid (by rw [← e_a1]; exact lt_abs x)
  have R_a1 := Lib.hid e_a1
  obtain ⟨b, e_b⟩ : ∃ v, negP a1 = v := ⟨_, rfl⟩
  have L_b : Hid (b < 4294967296) := Lib.hid (by rw [← e_b]; exact neg_lt L_a1.out)
  have R_b := Lib.hid e_b
  obtain ⟨c, e_c⟩ : ∃ v, expP b = v := ⟨_, rfl⟩
  have L_c : Hid (c < 4294967296) := Lib.hid (by rw [← e_c]; exact lt_exp b)
  have R_c := Lib.hid e_c
  obtain ⟨d, e_d⟩ : ∃ v, addP 0 1065353216 c = v := ⟨_, rfl⟩
  have L_d : Hid (d < 4294967296) := Lib.hid (by rw [← e_d]; exact (okR.add 0 (Lib.hid (by decide)).out L_c.out).1)
  have R_d := Lib.hid e_d
  obtain ⟨l, e_l⟩ : ∃ v, logP d = v := ⟨_, rfl⟩
  have L_l : Hid (l < 4294967296) := Lib.hid (by rw [← e_l]; exact lt_log d)
  have R_l := Lib.hid e_l
  obtain ⟨y, e_y⟩ : ∃ v, addP 0 mx l = v := ⟨_, rfl⟩
  have L_y : Hid (y < 4294967296) := Lib.hid (by rw [← e_y]; exact (okR.add 0 L_mx.out L_l.out).1)
  have R_y := Lib.hid e_y
  have HE : Hid (softpP x = y) := Lib.hid (by
    unfold softpP
    rw [if_neg n1]
    unfold softpM
    rw [e_mx, e_a1, e_b, e_c, e_d, e_l, e_y])
  clear c1 n1 e_mx e_a1 e_b e_c e_d e_l e_y
  go_enter Try.func21, Try.ntmps21
  have hB0 := Below.refl w.heap.size w
  have hz0 := hB0.size
  go_wp2_with fail
  refine (nan_at L_x C1).mono ?_
  rintro e' w' ⟨rfl, hw⟩
  subst w'
  go_wp2_with fail
  refine (max_at L_x (Lib.hid (by decide)) R_mx).mono ?_
  rintro e' w' ⟨rfl, hw⟩
  subst w'
  go_wp2_with fail
  refine (abs_at L_x R_a1).mono ?_
  rintro e' w' ⟨rfl, hw⟩
  subst w'
  go_wp2_with fail
  refine (neg_at L_a1 R_b).mono ?_
  rintro e' w' ⟨rfl, hw⟩
  subst w'
  go_wp2_with fail
  refine (exp_at L_b R_c).mono ?_
  rintro e' W1 ⟨rfl, hC⟩
  have hB1 := hB0.trans (hC.mono hz0)
  have hz1 := hB1.size
  clear hC hB0 hz0
  go_wp2_with fail
  refine (add0_at (Lib.hid (by decide)) L_c R_d).mono ?_
  rintro e' W2 ⟨rfl, hC⟩
  have hB2 := hB1.trans (hC.mono hz1)
  have hz2 := hB2.size
  clear hC hB1 hz1
  go_wp2_with fail
  refine (log_at L_d R_l).mono ?_
  rintro e' W3 ⟨rfl, hC⟩
  have hB3 := hB2.trans (hC.mono hz2)
  have hz3 := hB3.size
  clear hC hB2 hz2
  go_wp2_with fail
  refine (add0_at L_mx L_l R_y).mono ?_
  rintro e' W4 ⟨rfl, hC⟩
  have hB4 := hB3.trans (hC.mono hz3)
  have hz4 := hB4.size
  clear hC hB3 hz3
  go_wp2
  go_ret
  exact ⟨by rw [HE.out]; try rfl, hB4⟩
theorem softp_at {x r : Nat} {w : World} (L_x : Hid (x < 4294967296)) (hr : Hid (softpP x = r)) : Calls Try.prog 21 #[.int .u32 (x : Int)] w (BR w r) := by
  have := softp_any x w L_x
  rw [hr.out] at this
  exact this
end Go.Proofs.Ytegeadkilolngaa
