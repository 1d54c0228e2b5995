/- The contracts of Log: the program's and the document's. -/
import Derived.Test.YtegeadkilolngaaElC
namespace Go.Proofs.Ytegeadkilolngaa
open Go.RowKit

theorem lt_from (e : Int) : fromP 0 e < 4294967296 := (okR.round _ _ _ _ _).1
theorem from0_at {e : Int} {r : Nat} {w : World} (HE : Hid (-1000 ≤ e ∧ e ≤ 1000)) (hr : Hid (fromP 0 e = r)) : Calls Try.prog 47 #[.int .i64 e] w fun e w' => e = .returned (.int .u32 (r : Int)) ∧ w' = w := by
  have := from0_any e w (by have := HE.out; omega)
  rw [hr.out] at this
  exact this
def lgX (x : Nat) : Nat := if x / 8388608 = 0 then scaleP x 24 else x
def lgE (x : Nat) : Int := (if x / 8388608 = 0 then -24 else 0) + ((lgX x / 8388608 : Nat) : Int) - 126
def lgM (x : Nat) : Nat := lgX x % 8388608 + 1056964608
def logS (m : Nat) (e : Int) : Nat := fmaP 0 (fromP 0 e) 1060208640 (fmaP 0 (fromP 0 e) 3109978243 (mulP 0 (divP 0 (addP 0 m (negP 1065353216)) (addP 0 (addP 0 m (negP 1065353216)) 1073741824)) (rowP (mulP 0 (divP 0 (addP 0 m (negP 1065353216)) (addP 0 (addP 0 m (negP 1065353216)) 1073741824)) (divP 0 (addP 0 m (negP 1065353216)) (addP 0 (addP 0 m (negP 1065353216)) 1073741824))) [1046711865, 1049774373, 1053609165, 1059760811, 1073741824])))
def logM (x : Nat) : Nat := if lessP (lgM x) 1060439283 = true then logS (addP 0 (lgM x) (lgM x)) (lgE x - 1) else logS (lgM x) (lgE x)
/-- the natural logarithm -/
def logP (x : Nat) : Nat := if nanP x = true then 2143289344 else if absP x = 0 then 4286578688 else if 2147483648 ≤ x then 2143289344 else if infP x = true then x else logM x
theorem lt_logS (m : Nat) (e : Int) : logS m e < 4294967296 := by
  unfold logS
  exact lt_fma (lt_fma (okR.mul 0 _ _).1)
theorem lt_log (x : Nat) : logP x < 4294967296 := by
  unfold logP
  split
  · decide
  · split
    · decide
    · split
      · decide
      · split
        · omega
        · unfold logM
          split <;> exact lt_logS _ _
theorem lgX_lt {x : Nat} (h0 : 0 < x) (h : x < 2139095040) : lgX x < 2147483648 := by
  unfold lgX
  split
  · rename_i hx
    have hab : absP x = x := by unfold absP; omega
    have hna : nanP x = false := by unfold nanP; rw [decide_eq_false]; omega
    have hia : infP x = false := by unfold infP; rw [decide_eq_false]; omega
    have hs0 : 0 < oS x := by
      rcases Nat.eq_zero_or_pos (oS x) with e | e
      · have := o_nil.1 e; omega
      · exact e
    obtain ⟨ob1, ob2, ob3⟩ := o_bounds x
    have hon : oN x = false := by unfold oN; rw [decide_eq_false]; omega
    unfold scaleP
    rw [if_neg (by rw [hna]; decide), if_neg (by rw [hia]; simp; omega), show max (-1000) (min (24 : Int) 1000) = ((24 : Nat) : Int) from rfl]
    obtain ⟨i, hi⟩ : ∃ i : Nat, oE x + 149 = (i : Int) := ⟨(oE x + 149).toNat, by omega⟩
    rw [scale_up hs0 ob1 hi, hon]
    obtain ⟨k, e1, e2, -⟩ := place_rnd 0 false (two 24 * (oS x * two i)) 1
    rw [e1]
    show 0 + k < _
    omega
  · omega
theorem lgM_lt (x : Nat) : lgM x < 4294967296 := by unfold lgM; omega
theorem lgE_le {x : Nat} (h : lgX x < 2147483648) : -900 ≤ lgE x ∧ lgE x ≤ 900 := by
  unfold lgE
  split <;> omega
theorem or_126 {F : Nat} (h : F < 8388608) : bits .or .u32 (F : Int) 1056964608 = ((F + 1056964608 : Nat) : Int) := by
  have e : 1056964608 ||| F = 1056964608 + F := by
    have := Nat.two_pow_add_eq_or_of_lt (i := 23) (b := F) h 126
    simpa using this.symm
  have hc : bits .or .u32 (F : Int) 1056964608 = ((F ||| 1056964608 : Nat) : Int) := u32_or_nat F 1056964608 (by omega) (by decide)
  rw [hc, Nat.or_comm, e, Nat.add_comm]
set_option maxRecDepth 100000 in
set_option maxHeartbeats 1600000 in
theorem parts_any (x : Nat) (w : World) (h0 : Hid (0 < x ∧ x < 2139095040)) :
    Calls Try.prog 46 #[.int .u32 (x : Int)] w fun e w' => e = .returned (.tuple #[.int .u32 (lgM x : Int), .int .i64 (lgE x)]) ∧ Below w.heap.size w w' := by
  have hxx := lgX_lt h0.out.1 h0.out.2
  have hx := h0.out
  obtain ⟨xx, hxe⟩ : ∃ v, lgX x = v := ⟨_, rfl⟩
  rw [hxe] at hxx
  have h1 : bits .and .u32 (xx : Int) 8388607 = ((xx % 8388608 : Nat) : Int) := and_u32 23 (by decide) (by omega)
  have h2 := or_126 (F := xx % 8388608) (by omega)
  have HM : Hid (lgM x = xx % 8388608 + 1056964608) := Lib.hid (by unfold lgM; rw [hxe])
  have hq : (xx : Int) / 8388608 = ((xx / 8388608 : Nat) : Int) := by omega
  obtain ⟨E0, hE0⟩ : ∃ v, xx / 8388608 = v := ⟨_, rfl⟩
  rw [hE0] at hq
  obtain ⟨F0, hF0⟩ : ∃ v, xx % 8388608 = v := ⟨_, rfl⟩
  rw [hF0] at h1 h2 HM
  have hE1 : E0 < 256 := by omega
  have hF1 : F0 < 8388608 := by omega
  obtain ⟨M, hM⟩ : ∃ v, F0 + 1056964608 = v := ⟨_, rfl⟩
  rw [hM] at h2 HM
  by_cases hs : x / 8388608 = 0
  · have HE : Hid (lgE x = -24 + (E0 : Int) - 126) := Lib.hid (by unfold lgE; rw [if_pos hs, hxe, hE0])
    have HS : Hid (scaleP x 24 = xx) := Lib.hid (by rw [← hxe]; unfold lgX; rw [if_pos hs])
    have hb : ((x : Int) / 8388608 == 0) = true := by rw [beq_iff_eq]; omega
    have L_x : Hid (x < 4294967296) := Lib.hid (by omega)
    clear hs hxe hE0 hF0 hM hx hxx
    go_enter Try.func46, Try.ntmps46
    go_wp2_with fail
    refine (scale_at L_x HS).mono ?_
    rintro e' w1 ⟨rfl, hB⟩
    go_wp2
    go_ret2
    exact ⟨by rw [HM.out, HE.out]; try rfl, hB⟩
  · have HE : Hid (lgE x = (E0 : Int) - 126) := Lib.hid (by unfold lgE; rw [if_neg hs, hxe, hE0]; omega)
    obtain rfl : x = xx := by rw [← hxe]; unfold lgX; rw [if_neg hs]
    have hb : ((E0 : Int) == 0) = false := by rw [beq_eq_false_iff_ne]; omega
    clear hs hxe hE0 hF0 hM hx hxx
    go_enter Try.func46, Try.ntmps46
    go_wp2
    go_ret2
    exact ⟨by rw [HM.out, HE.out]; try rfl, Below.refl _ _⟩
set_option maxRecDepth 100000 in
set_option maxHeartbeats 1600000 in
theorem log_any (x : Nat) (w : World) (L_x : Hid (x < 4294967296)) : Calls Try.prog 20 #[.int .u32 (x : Int)] w (BR w (logP x)) := by
  obtain ⟨ax, e_ax⟩ : ∃ v, absP x = v := ⟨_, rfl⟩
  have R_ax := Lib.hid e_ax
  cases c1 : nanP x
  case true =>
    have C1 := Lib.hid c1
    have HE : Hid (logP x = 2143289344) := Lib.hid (by unfold logP; rw [if_pos c1])
    clear c1 e_ax
    go_enter Try.func20, Try.ntmps20
    have hB0 := Below.refl w.heap.size w
    have hz0 := hB0.size
    go_wp2_with fail
    refine (nan_at L_x C1).mono ?_
    rintro e' w' ⟨rfl, hw⟩
    subst w'
    go_wp2
    go_ret
    exact ⟨by rw [HE.out]; try rfl, hB0⟩
  have C1 := Lib.hid c1
  have n1 : ¬ nanP x = true := by rw [c1]; decide
  by_cases h0 : ax = 0
  case pos =>
    have HE : Hid (logP x = 4286578688) := Lib.hid (by unfold logP; rw [if_neg n1, if_pos (e_ax.trans h0)])
    have b0 : ((ax : Int) == 0) = true := int_eq (y := 0) h0
    clear c1 e_ax n1 h0
    go_enter Try.func20, Try.ntmps20
    have hB0 := Below.refl w.heap.size w
    have hz0 := hB0.size
    go_wp2_with fail
    refine (nan_at L_x C1).mono ?_
    rintro e' w' ⟨rfl, hw⟩
    subst w'
    go_wp2_with fail
    refine (abs_at L_x R_ax).mono ?_
    rintro e' w' ⟨rfl, hw⟩
    subst w'
    go_wp2
    go_ret
    exact ⟨by rw [HE.out]; try rfl, hB0⟩
  have b0 : ((ax : Int) == 0) = false := int_ne (y := 0) h0
  have n0 : ¬ absP x = 0 := by rw [e_ax]; exact h0
  have hsg := sign_and L_x.out
  by_cases hs : 2147483648 ≤ x
  case pos =>
    have HE : Hid (logP x = 2143289344) := Lib.hid (by unfold logP; rw [if_neg n1, if_neg n0, if_pos hs])
    rw [decide_eq_true hs] at hsg
    clear c1 e_ax n1 h0 n0 hs
    go_enter Try.func20, Try.ntmps20
    have hB0 := Below.refl w.heap.size w
    have hz0 := hB0.size
    go_wp2_with fail
    refine (nan_at L_x C1).mono ?_
    rintro e' w' ⟨rfl, hw⟩
    subst w'
    go_wp2_with fail
    refine (abs_at L_x R_ax).mono ?_
    rintro e' w' ⟨rfl, hw⟩
    subst w'
    go_wp2
    go_ret
    exact ⟨by rw [HE.out]; try rfl, hB0⟩
  rw [decide_eq_false hs] at hsg
  by_cases hi : x = 2139095040
  case pos =>
    have hif : infP x = true := by rw [hi]; kernel_rfl
    have CI := Lib.hid hif
    have HE : Hid (logP x = 2139095040) := Lib.hid (by unfold logP; rw [if_neg n1, if_neg n0, if_neg hs, if_pos hif]; exact hi)
    have bi : ((x : Int) == 2139095040) = true := int_eq hi
    have HXI := Lib.hid hi
    clear c1 e_ax n1 h0 n0 hs hi hif
    go_enter Try.func20, Try.ntmps20
    have hB0 := Below.refl w.heap.size w
    have hz0 := hB0.size
    go_wp2_with fail
    refine (nan_at L_x C1).mono ?_
    rintro e' w' ⟨rfl, hw⟩
    subst w'
    go_wp2_with fail
    refine (abs_at L_x R_ax).mono ?_
    rintro e' w' ⟨rfl, hw⟩
    subst w'
    go_wp2_with fail
    refine (inf_at L_x CI).mono ?_
    rintro e' w' ⟨rfl, hw⟩
    subst w'
    go_wp2
    go_ret
    exact ⟨by rw [HE.out, HXI.out]; try rfl, hB0⟩
  have hif : infP x = false := by
    unfold infP
    rw [decide_eq_false]
    omega
  have CI := Lib.hid hif
  have bi : ((x : Int) == 2139095040) = false := int_ne hi
  have hxl : x < 2139095040 := by
    unfold nanP at c1
    have := of_decide_eq_false c1
    omega
  have hx0 : 0 < x := by unfold absP at n0; omega
  have HX : Hid (0 < x ∧ x < 2139095040) := Lib.hid ⟨hx0, hxl⟩
  have hM : logP x = logM x := by
    unfold logP
    rw [if_neg n1, if_neg n0, if_neg hs, if_neg (by rw [hif]; decide)]
  have hxx := lgX_lt hx0 hxl
  obtain ⟨m0, hm0⟩ : ∃ v, lgM x = v := ⟨_, rfl⟩
  obtain ⟨e0, he0⟩ : ∃ v, lgE x = v := ⟨_, rfl⟩
  have L_m0 : Hid (m0 < 4294967296) := Lib.hid (by rw [← hm0]; exact lgM_lt x)
  have heb := lgE_le hxx
  rw [he0] at heb
  have HM0 := Lib.hid hm0
  have HE0 := Lib.hid he0
  unfold logM at hM
  rw [hm0, he0] at hM
  cases hl : lessP m0 1060439283
  case true =>
    have HL2 := Lib.hid hl
    rw [if_pos hl] at hM
    obtain ⟨m, e_m⟩ : ∃ v, addP 0 m0 m0 = v := ⟨_, rfl⟩
    have L_m : Hid (m < 4294967296) := Lib.hid (by rw [← e_m]; exact (okR.add 0 L_m0.out L_m0.out).1)
    have R_m := Lib.hid e_m
    obtain ⟨e, e_e⟩ : ∃ v, e0 - 1 = v := ⟨_, rfl⟩
    have HEB_e : Hid (-1000 ≤ e ∧ e ≤ 1000) := Lib.hid (by omega)
    rw [e_m, e_e] at hM
    obtain ⟨f, e_f⟩ : ∃ v, addP 0 m (negP 1065353216) = v := ⟨_, rfl⟩
    have L_f : Hid (f < 4294967296) := Lib.hid (by rw [← e_f]; exact (okR.add 0 L_m.out (neg_lt (Lib.hid (by decide)).out)).1)
    have R_f := Lib.hid e_f
    obtain ⟨g, e_g⟩ : ∃ v, addP 0 f 1073741824 = v := ⟨_, rfl⟩
    have L_g : Hid (g < 4294967296) := Lib.hid (by rw [← e_g]; exact (okR.add 0 L_f.out (Lib.hid (by decide)).out).1)
    have R_g := Lib.hid e_g
    obtain ⟨s, e_s⟩ : ∃ v, divP 0 f g = v := ⟨_, rfl⟩
    have L_s : Hid (s < 4294967296) := Lib.hid (by rw [← e_s]; exact (okR.div 0 f g).1)
    have R_s := Lib.hid e_s
    obtain ⟨z, e_z⟩ : ∃ v, mulP 0 s s = v := ⟨_, rfl⟩
    have L_z : Hid (z < 4294967296) := Lib.hid (by rw [← e_z]; exact (okR.mul 0 s s).1)
    have R_z := Lib.hid e_z
    obtain ⟨p, e_p⟩ : ∃ v, rowP z [1046711865, 1049774373, 1053609165, 1059760811, 1073741824] = v := ⟨_, rfl⟩
    have L_p : Hid (p < 4294967296) := Lib.hid (by rw [← e_p]; exact lt_row (by intro d hd; simp at hd; omega))
    have R_p := Lib.hid e_p
    obtain ⟨l, e_l⟩ : ∃ v, mulP 0 s p = v := ⟨_, rfl⟩
    have L_l : Hid (l < 4294967296) := Lib.hid (by rw [← e_l]; exact (okR.mul 0 s p).1)
    have R_l := Lib.hid e_l
    obtain ⟨k, e_k⟩ : ∃ v, fromP 0 e = v := ⟨_, rfl⟩
    have L_k : Hid (k < 4294967296) := Lib.hid (by rw [← e_k]; exact lt_from e)
    have R_k := Lib.hid e_k
    obtain ⟨u, e_u⟩ : ∃ v, fmaP 0 k 3109978243 l = v := ⟨_, rfl⟩
    have L_u : Hid (u < 4294967296) := Lib.hid (by rw [← e_u]; exact lt_fma L_l.out)
    have R_u := Lib.hid e_u
    obtain ⟨y, e_y⟩ : ∃ v, fmaP 0 k 1060208640 u = v := ⟨_, rfl⟩
    have L_y : Hid (y < 4294967296) := Lib.hid (by rw [← e_y]; exact lt_fma L_u.out)
    have R_y := Lib.hid e_y
    have HE : Hid (logP x = y) := Lib.hid (by
      rw [hM]
      unfold logS
      rw [e_f, e_g, e_s, e_z, e_p, e_l, e_k, e_u, e_y])
    clear c1 e_ax n1 h0 n0 hs hi hif hxl hx0 hM hxx hm0 he0 hl e_f e_g e_s e_z e_p e_l e_k e_u e_y e_m
    go_enter Try.func20, Try.ntmps20
    have hB0 := Below.refl w.heap.size w
    have hz0 := hB0.size
    go_wp2_with fail
    refine (nan_at L_x C1).mono ?_
    rintro e' w' ⟨rfl, hw⟩
    subst w'
    go_wp2_with fail
    refine (abs_at L_x R_ax).mono ?_
    rintro e' w' ⟨rfl, hw⟩
    subst w'
    go_wp2_with fail
    refine (inf_at L_x CI).mono ?_
    rintro e' w' ⟨rfl, hw⟩
    subst w'
    go_wp2_with fail
    refine (parts_any x _ HX).mono ?_
    rintro e' W1 ⟨rfl, hC⟩
    rw [HM0.out, HE0.out]
    have hB1 := hB0.trans (hC.mono hz0)
    have hz1 := hB1.size
    clear hC hB0 hz0
    go_wp2_with fail
    refine (less_at L_m0 (Lib.hid (by decide)) HL2).mono ?_
    rintro e' w' ⟨rfl, hw⟩
    subst w'
    go_wp2_with fail
    refine (add0_at L_m0 L_m0 R_m).mono ?_
    rintro e' W2 ⟨rfl, hC⟩
    have hB2 := hB1.trans (hC.mono hz1)
    have hz2 := hB2.size
    clear hC hB1 hz1
    go_wp2_with fail
    refine (sub0_at L_m (Lib.hid (by decide)) R_f).mono ?_
    rintro e' W3 ⟨rfl, hC⟩
    have hB3 := hB2.trans (hC.mono hz2)
    have hz3 := hB3.size
    clear hC hB2 hz2
    go_wp2_with fail
    refine (add0_at L_f (Lib.hid (by decide)) R_g).mono ?_
    rintro e' W4 ⟨rfl, hC⟩
    have hB4 := hB3.trans (hC.mono hz3)
    have hz4 := hB4.size
    clear hC hB3 hz3
    go_wp2_with fail
    refine (div0_at L_f L_g R_s).mono ?_
    rintro e' W5 ⟨rfl, hC⟩
    have hB5 := hB4.trans (hC.mono hz4)
    have hz5 := hB5.size
    clear hC hB4 hz4
    go_wp2_with fail
    refine (mul0_at L_s L_s R_z).mono ?_
    rintro e' W6 ⟨rfl, hC⟩
    have hB6 := hB5.trans (hC.mono hz5)
    have hz6 := hB6.size
    clear hC hB5 hz5
    go_wp2_with fail
    refine (row_any (l := [1049774373, 1053609165, 1059760811, 1073741824]) (c := 1046711865) (B := W6.heap.size + 1) L_z (Lib.hid rfl) (by decide) (by decide) (by decide) (by simp) (wr_new W6 [1046711865, 1049774373, 1053609165, 1059760811, 1073741824]) (Lib.hid (fun d hd => by simp at hd; omega))).mono ?_
    rintro e' W7 ⟨rfl, hC⟩
    rw [R_p.out]
    have hB7 := (hB6.alloc hz6 _).trans (hC.mono (by simp; omega))
    have hz7 := hB7.size
    clear hC hB6 hz6
    go_wp2_with fail
    refine (mul0_at L_s L_p R_l).mono ?_
    rintro e' W8 ⟨rfl, hC⟩
    have hB8 := hB7.trans (hC.mono hz7)
    have hz8 := hB8.size
    clear hC hB7 hz7
    go_wp2_with fail
    refine (from0_at HEB_e R_k).mono ?_
    rintro e' w' ⟨rfl, hw⟩
    subst w'
    go_wp2_with fail
    refine (fma0_at L_k (Lib.hid (by decide)) L_l R_u).mono ?_
    rintro e' W9 ⟨rfl, hC⟩
    have hB9 := hB8.trans (hC.mono hz8)
    have hz9 := hB9.size
    clear hC hB8 hz8
    go_wp2_with fail
    refine (fma0_at L_k (Lib.hid (by decide)) L_u R_y).mono ?_
    rintro e' W10 ⟨rfl, hC⟩
    have hB10 := hB9.trans (hC.mono hz9)
    have hz10 := hB10.size
    clear hC hB9 hz9
    go_wp2
    go_ret
    exact ⟨by rw [HE.out]; try rfl, hB10⟩
  case false =>
    have HL2 := Lib.hid hl
    rw [if_neg (by rw [hl]; decide)] at hM
    have HEB_e0 : Hid (-1000 ≤ e0 ∧ e0 ≤ 1000) := Lib.hid (by omega)
    obtain ⟨f, e_f⟩ : ∃ v, addP 0 m0 (negP 1065353216) = v := ⟨_, rfl⟩
    have L_f : Hid (f < 4294967296) := Lib.hid (by rw [← e_f]; exact (okR.add 0 L_m0.out (neg_lt (Lib.hid (by decide)).out)).1)
    have R_f := Lib.hid e_f
    obtain ⟨g, e_g⟩ : ∃ v, addP 0 f 1073741824 = v := ⟨_, rfl⟩
    have L_g : Hid (g < 4294967296) := Lib.hid (by rw [← e_g]; exact (okR.add 0 L_f.out (Lib.hid (by decide)).out).1)
    have R_g := Lib.hid e_g
    obtain ⟨s, e_s⟩ : ∃ v, divP 0 f g = v := ⟨_, rfl⟩
    have L_s : Hid (s < 4294967296) := Lib.hid (by rw [← e_s]; exact (okR.div 0 f g).1)
    have R_s := Lib.hid e_s
    obtain ⟨z, e_z⟩ : ∃ v, mulP 0 s s = v := ⟨_, rfl⟩
    have L_z : Hid (z < 4294967296) := Lib.hid (by rw [← e_z]; exact (okR.mul 0 s s).1)
    have R_z := Lib.hid e_z
    obtain ⟨p, e_p⟩ : ∃ v, rowP z [1046711865, 1049774373, 1053609165, 1059760811, 1073741824] = v := ⟨_, rfl⟩
    have L_p : Hid (p < 4294967296) := Lib.hid (by rw [← e_p]; exact lt_row (by intro d hd; simp at hd; omega))
    have R_p := Lib.hid e_p
    obtain ⟨l, e_l⟩ : ∃ v, mulP 0 s p = v := ⟨_, rfl⟩
    have L_l : Hid (l < 4294967296) := Lib.hid (by rw [← e_l]; exact (okR.mul 0 s p).1)
    have R_l := Lib.hid e_l
    obtain ⟨k, e_k⟩ : ∃ v, fromP 0 e0 = v := ⟨_, rfl⟩
    have L_k : Hid (k < 4294967296) := Lib.hid (by rw [← e_k]; exact lt_from e0)
    have R_k := Lib.hid e_k
    obtain ⟨u, e_u⟩ : ∃ v, fmaP 0 k 3109978243 l = v := ⟨_, rfl⟩
    have L_u : Hid (u < 4294967296) := Lib.hid (by rw [← e_u]; exact lt_fma L_l.out)
    have R_u := Lib.hid e_u
    obtain ⟨y, e_y⟩ : ∃ v, fmaP 0 k 1060208640 u = v := ⟨_, rfl⟩
    have L_y : Hid (y < 4294967296) := Lib.hid (by rw [← e_y]; exact lt_fma L_u.out)
    have R_y := Lib.hid e_y
    have HE : Hid (logP x = y) := Lib.hid (by
      rw [hM]
      unfold logS
      rw [e_f, e_g, e_s, e_z, e_p, e_l, e_k, e_u, e_y])
    clear c1 e_ax n1 h0 n0 hs hi hif hxl hx0 hM hxx hm0 he0 hl e_f e_g e_s e_z e_p e_l e_k e_u e_y
    go_enter Try.func20, Try.ntmps20
    have hB0 := Below.refl w.heap.size w
    have hz0 := hB0.size
    go_wp2_with fail
    refine (nan_at L_x C1).mono ?_
    rintro e' w' ⟨rfl, hw⟩
    subst w'
    go_wp2_with fail
    refine (abs_at L_x R_ax).mono ?_
    rintro e' w' ⟨rfl, hw⟩
    subst w'
    go_wp2_with fail
    refine (inf_at L_x CI).mono ?_
    rintro e' w' ⟨rfl, hw⟩
    subst w'
    go_wp2_with fail
    refine (parts_any x _ HX).mono ?_
    rintro e' W1 ⟨rfl, hC⟩
    rw [HM0.out, HE0.out]
    have hB1 := hB0.trans (hC.mono hz0)
    have hz1 := hB1.size
    clear hC hB0 hz0
    go_wp2_with fail
    refine (less_at L_m0 (Lib.hid (by decide)) HL2).mono ?_
    rintro e' w' ⟨rfl, hw⟩
    subst w'
    go_wp2_with fail
    refine (sub0_at L_m0 (Lib.hid (by decide)) R_f).mono ?_
    rintro e' W2 ⟨rfl, hC⟩
    have hB2 := hB1.trans (hC.mono hz1)
    have hz2 := hB2.size
    clear hC hB1 hz1
    go_wp2_with fail
    refine (add0_at L_f (Lib.hid (by decide)) R_g).mono ?_
    rintro e' W3 ⟨rfl, hC⟩
    have hB3 := hB2.trans (hC.mono hz2)
    have hz3 := hB3.size
    clear hC hB2 hz2
    go_wp2_with fail
    refine (div0_at L_f L_g R_s).mono ?_
    rintro e' W4 ⟨rfl, hC⟩
    have hB4 := hB3.trans (hC.mono hz3)
    have hz4 := hB4.size
    clear hC hB3 hz3
    go_wp2_with fail
    refine (mul0_at L_s L_s R_z).mono ?_
    rintro e' W5 ⟨rfl, hC⟩
    have hB5 := hB4.trans (hC.mono hz4)
    have hz5 := hB5.size
    clear hC hB4 hz4
    go_wp2_with fail
    refine (row_any (l := [1049774373, 1053609165, 1059760811, 1073741824]) (c := 1046711865) (B := W5.heap.size + 1) L_z (Lib.hid rfl) (by decide) (by decide) (by decide) (by simp) (wr_new W5 [1046711865, 1049774373, 1053609165, 1059760811, 1073741824]) (Lib.hid (fun d hd => by simp at hd; omega))).mono ?_
    rintro e' W6 ⟨rfl, hC⟩
    rw [R_p.out]
    have hB6 := (hB5.alloc hz5 _).trans (hC.mono (by simp; omega))
    have hz6 := hB6.size
    clear hC hB5 hz5
    go_wp2_with fail
    refine (mul0_at L_s L_p R_l).mono ?_
    rintro e' W7 ⟨rfl, hC⟩
    have hB7 := hB6.trans (hC.mono hz6)
    have hz7 := hB7.size
    clear hC hB6 hz6
    go_wp2_with fail
    refine (from0_at HEB_e0 R_k).mono ?_
    rintro e' w' ⟨rfl, hw⟩
    subst w'
    go_wp2_with fail
    refine (fma0_at L_k (Lib.hid (by decide)) L_l R_u).mono ?_
    rintro e' W8 ⟨rfl, hC⟩
    have hB8 := hB7.trans (hC.mono hz7)
    have hz8 := hB8.size
    clear hC hB7 hz7
    go_wp2_with fail
    refine (fma0_at L_k (Lib.hid (by decide)) L_u R_y).mono ?_
    rintro e' W9 ⟨rfl, hC⟩
    have hB9 := hB8.trans (hC.mono hz8)
    have hz9 := hB9.size
    clear hC hB8 hz8
    go_wp2
    go_ret
    exact ⟨by rw [HE.out]; try rfl, hB9⟩
theorem log_at {x r : Nat} {w : World} (L_x : Hid (x < 4294967296)) (hr : Hid (logP x = r)) : Calls Try.prog 20 #[.int .u32 (x : Int)] w (BR w r) := by
  have := log_any x w L_x
  rw [hr.out] at this
  exact this
end Go.Proofs.Ytegeadkilolngaa
