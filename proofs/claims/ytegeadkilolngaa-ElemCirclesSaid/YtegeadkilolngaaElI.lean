/- The document's turn, Sin and Cos. -/
import Derived.Test.YtegeadkilolngaaElF
namespace Go.Proofs.Ytegeadkilolngaa
open Go.RowKit

theorem lt_circS {x : Nat} (h : Hid (x < 4294967296)) : circS x < 4294967296 := by
  unfold circS cirA
  refine lt_fma ?_
  unfold cirR
  exact lt_fma (lt_fma (lt_fma h.out))
theorem lt_circC {x : Nat} : circC x < 4294967296 := lt_row (by intro d hd; simp at hd; omega)
set_option maxRecDepth 100000 in
set_option maxHeartbeats 3200000 in
theorem turn_at {x s c m : Nat} {w : World} (L_x : Hid (x < 4294967296)) (hs : Hid (circS x = s)) (hc : Hid (circC x = c)) (hm : Hid (circN x % 4 = (m : Int))) :
    Calls Try.prog 26 #[.int .u32 (x : Int)] w fun e w' => e = .returned (.tuple #[.int .u32 (s : Int), .int .u32 (c : Int), .int .i64 (m : Int)]) ∧ Below w.heap.size w w' := by
  obtain ⟨s0, hs0⟩ : ∃ v, s = v := ⟨_, rfl⟩
  obtain ⟨c0, hc0⟩ : ∃ v, c = v := ⟨_, rfl⟩
  rw [hs0, hc0]
  rw [hs0] at hs
  rw [hc0] at hc
  clear hs0 hc0
  obtain ⟨b, e_b⟩ : ∃ v, mulP 0 x 1059256707 = v := ⟨_, rfl⟩
  have L_b : Hid (b < 4294967296) := Lib.hid (by rw [← e_b]; exact (okR.mul 0 x 1059256707).1)
  have R_b := Lib.hid e_b
  obtain ⟨k, e_k⟩ : ∃ v, wholeP 2 b = v := ⟨_, rfl⟩
  have L_k : Hid (k < 4294967296) := Lib.hid (by rw [← e_k]; exact lt_whole 2 L_b.out)
  have R_k := Lib.hid e_k
  obtain ⟨r1, e_r1⟩ : ∃ v, fmaP 0 k 3217620992 x = v := ⟨_, rfl⟩
  have L_r1 : Hid (r1 < 4294967296) := Lib.hid (by rw [← e_r1]; exact lt_fma L_x.out)
  have R_r1 := Lib.hid e_r1
  obtain ⟨r2, e_r2⟩ : ∃ v, fmaP 0 k 3120406528 r1 = v := ⟨_, rfl⟩
  have L_r2 : Hid (r2 < 4294967296) := Lib.hid (by rw [← e_r2]; exact lt_fma L_r1.out)
  have R_r2 := Lib.hid e_r2
  obtain ⟨r, e_r⟩ : ∃ v, fmaP 0 k 3013747049 r2 = v := ⟨_, rfl⟩
  have L_r : Hid (r < 4294967296) := Lib.hid (by rw [← e_r]; exact lt_fma L_r2.out)
  have R_r := Lib.hid e_r
  obtain ⟨z, e_z⟩ : ∃ v, mulP 0 r r = v := ⟨_, rfl⟩
  have L_z : Hid (z < 4294967296) := Lib.hid (by rw [← e_z]; exact (okR.mul 0 r r).1)
  have R_z := Lib.hid e_z
  obtain ⟨s1, e_s1⟩ : ∃ v, mulP 0 r z = v := ⟨_, rfl⟩
  have L_s1 : Hid (s1 < 4294967296) := Lib.hid (by rw [← e_s1]; exact (okR.mul 0 r z).1)
  have R_s1 := Lib.hid e_s1
  obtain ⟨s2, e_s2⟩ : ∃ v, rowP z [3109031169, 1007192201, 3190467243] = v := ⟨_, rfl⟩
  have L_s2 : Hid (s2 < 4294967296) := Lib.hid (by rw [← e_s2]; exact lt_row (by intro d hd; simp at hd; omega))
  have R_s2 := Lib.hid e_s2
  obtain ⟨y, e_y⟩ : ∃ v, fmaP 0 s1 s2 r = v := ⟨_, rfl⟩
  have L_y : Hid (y < 4294967296) := Lib.hid (by rw [← e_y]; exact lt_fma L_r.out)
  have R_y := Lib.hid e_y
  obtain ⟨c, e_c⟩ : ∃ v, rowP z [3132492641, 1026206379, 3204448256, 1065353216] = v := ⟨_, rfl⟩
  have L_c : Hid (c < 4294967296) := Lib.hid (by rw [← e_c]; exact lt_row (by intro d hd; simp at hd; omega))
  have R_c := Lib.hid e_c
  obtain ⟨n, e_n⟩ : ∃ v, toIntP k = v := ⟨_, rfl⟩
  have R_n := Lib.hid e_n
  have hk : cirK x = k := by unfold cirK; rw [e_b, e_k]
  have hr : cirR x k = r := by unfold cirR; rw [e_r1, e_r2, e_r]
  have hz : cirZ r = z := e_z
  have HS : Hid (s0 = y) := Lib.hid (by rw [← hs.out]; unfold circS; rw [hk, hr, hz]; unfold cirA; rw [e_s1, e_s2, e_y])
  have HC : Hid (c0 = c) := Lib.hid (by rw [← hc.out]; unfold circC; rw [hk, hr, hz, e_c])
  have hA : bits .and .i64 n 3 = (m : Int) := by rw [i64_and3, ← hm.out]; unfold circN; rw [hk, e_n]
  clear hs hc hm hk hr hz e_b e_k e_r1 e_r2 e_r e_z e_s1 e_s2 e_y e_c e_n
  go_enter Try.func26, Try.ntmps26
  have hB0 := Below.refl w.heap.size w
  have hz0 := hB0.size
  go_wp2_with fail
  refine (mul3_at L_x (Lib.hid (by decide)) R_b).mono ?_
  rintro e' W1 ⟨rfl, hC⟩
  have hB1 := hB0.trans (hC.mono hz0)
  have hz1 := hB1.size
  clear hC hB0 hz0
  go_wp2_with fail
  refine (even3_at L_b R_k).mono ?_
  rintro e' W2 ⟨rfl, hC⟩
  have hB2 := hB1.trans (hC.mono hz1)
  have hz2 := hB2.size
  clear hC hB1 hz1
  go_wp2_with fail
  refine (rfma3_at L_k (Lib.hid (by decide)) L_x R_r1).mono ?_
  rintro e' W3 ⟨rfl, hC⟩
  have hB3 := hB2.trans (hC.mono hz2)
  have hz3 := hB3.size
  clear hC hB2 hz2
  go_wp2_with fail
  refine (rfma3_at L_k (Lib.hid (by decide)) L_r1 R_r2).mono ?_
  rintro e' W4 ⟨rfl, hC⟩
  have hB4 := hB3.trans (hC.mono hz3)
  have hz4 := hB4.size
  clear hC hB3 hz3
  go_wp2_with fail
  refine (rfma3_at L_k (Lib.hid (by decide)) L_r2 R_r).mono ?_
  rintro e' W5 ⟨rfl, hC⟩
  have hB5 := hB4.trans (hC.mono hz4)
  have hz5 := hB5.size
  clear hC hB4 hz4
  go_wp2_with fail
  refine (mul3_at L_r L_r R_z).mono ?_
  rintro e' W6 ⟨rfl, hC⟩
  have hB6 := hB5.trans (hC.mono hz5)
  have hz6 := hB6.size
  clear hC hB5 hz5
  go_wp2_with fail
  refine (mul3_at L_r L_z R_s1).mono ?_
  rintro e' W7 ⟨rfl, hC⟩
  have hB7 := hB6.trans (hC.mono hz6)
  have hz7 := hB7.size
  clear hC hB6 hz6
  go_wp2_with fail
  refine (row3_any (l := [1007192201, 3190467243]) (c := 3109031169) (B := W7.heap.size + 1) L_z (Lib.hid rfl) (by decide) (by decide) (by simp) (wr_new W7 [3109031169, 1007192201, 3190467243]) (Lib.hid (fun d hd => by simp at hd; omega))).mono ?_
  rintro e' W8 ⟨rfl, hC⟩
  rw [R_s2.out]
  have hB8 := (hB7.alloc hz7 _).trans (hC.mono (by simp; omega))
  have hz8 := hB8.size
  clear hC hB7 hz7
  go_wp2_with fail
  refine (rfma3_at L_s1 L_s2 L_r R_y).mono ?_
  rintro e' W9 ⟨rfl, hC⟩
  have hB9 := hB8.trans (hC.mono hz8)
  have hz9 := hB9.size
  clear hC hB8 hz8
  go_wp2_with fail
  refine (row3_any (l := [1026206379, 3204448256, 1065353216]) (c := 3132492641) (B := W9.heap.size + 1) L_z (Lib.hid rfl) (by decide) (by decide) (by simp) (wr_new W9 [3132492641, 1026206379, 3204448256, 1065353216]) (Lib.hid (fun d hd => by simp at hd; omega))).mono ?_
  rintro e' W10 ⟨rfl, hC⟩
  rw [R_c.out]
  have hB10 := (hB9.alloc hz9 _).trans (hC.mono (by simp; omega))
  have hz10 := hB10.size
  clear hC hB9 hz9
  go_wp2_with fail
  refine (rtoint_at L_k R_n).mono ?_
  rintro e' w' ⟨rfl, hw⟩
  subst w'
  go_wp2
  go_ret3
  exact ⟨by rw [HS.out, HC.out]; try rfl, hB10⟩
set_option maxRecDepth 100000 in
set_option maxHeartbeats 3200000 in
theorem sin3_any (x : Nat) (w : World) (L_x : Hid (x < 4294967296)) : Calls Try.prog 8 #[.int .u32 (x : Int)] w (BR w (circP x 0)) := by
  obtain ⟨ax, e_ax⟩ : ∃ v, absP x = v := ⟨_, rfl⟩
  have L_ax : Hid (ax < 4294967296) := Lib.hid (by rw [← e_ax]; exact lt_abs x)
  have R_ax := Lib.hid e_ax
  have hax : x % 2147483648 = ax := e_ax
  by_cases hx : 2139095040 ≤ ax
  · have HE : Hid (circP x 0 = 2143289344) := Lib.hid (by
      unfold circP nanP infP
      rw [hax]
      by_cases h : 2139095040 < ax
      · rw [if_pos (decide_eq_true h)]
      · rw [if_neg (by rw [decide_eq_false h]; decide), if_pos (decide_eq_true (by omega))])
    have hd : decide ((2139095040 : Int) ≤ (ax : Int)) = true := decide_eq_true (by omega)
    clear hx hax e_ax
    go_enter Try.func8, Try.ntmps8
    have hB0 := Below.refl w.heap.size w
    have hz0 := hB0.size
    go_wp2_with fail
    refine (abs3_at L_x R_ax).mono ?_
    rintro e' w' ⟨rfl, hw⟩
    subst w'
    go_wp2
    go_ret
    exact ⟨by rw [HE.out]; try rfl, hB0⟩
  have hM : circP x 0 = heldF (circY x (circQ x 0)) 3212836864 1065353216 := by
    unfold circP nanP infP
    rw [hax, if_neg (by rw [decide_eq_false (by omega)]; decide), if_neg (by rw [decide_eq_false (by omega)]; decide)]
    rfl
  have hd : decide ((2139095040 : Int) ≤ (ax : Int)) = false := decide_eq_false (by omega)
  obtain ⟨m, hm⟩ : ∃ m : Nat, circN x % 4 = (m : Int) := ⟨(circN x % 4).toNat, by omega⟩
  have hm4 : m = 0 ∨ m = 1 ∨ m = 2 ∨ m = 3 := by omega
  have hq : circQ x 0 = (m + 0) % 4 := by unfold circQ; rw [hm]; omega
  obtain ⟨s, e_s⟩ : ∃ v, circS x = v := ⟨_, rfl⟩
  obtain ⟨c, e_c⟩ : ∃ v, circC x = v := ⟨_, rfl⟩
  have L_s : Hid (s < 4294967296) := Lib.hid (by rw [← e_s]; exact lt_circS L_x)
  have L_c : Hid (c < 4294967296) := Lib.hid (by rw [← e_c]; exact lt_circC)
  have R_s := Lib.hid e_s
  have R_c := Lib.hid e_c
  obtain ⟨ns, e_ns⟩ : ∃ v, negP s = v := ⟨_, rfl⟩
  have L_ns : Hid (ns < 4294967296) := Lib.hid (by rw [← e_ns]; exact neg_lt L_s.out)
  have R_ns := Lib.hid e_ns
  obtain ⟨nc, e_nc⟩ : ∃ v, negP c = v := ⟨_, rfl⟩
  have L_nc : Hid (nc < 4294967296) := Lib.hid (by rw [← e_nc]; exact neg_lt L_c.out)
  have R_nc := Lib.hid e_nc
  rcases hm4 with h | h | h | h
  · subst h
    have HM : Hid (circN x % 4 = ((0 : Nat) : Int)) := Lib.hid hm
    obtain ⟨h2, e_h2⟩ : ∃ v, heldF s 3212836864 1065353216 = v := ⟨_, rfl⟩
    have L_h2 : Hid (h2 < 4294967296) := Lib.hid (by rw [← e_h2]; exact lt_held L_s.out (Lib.hid (by decide)).out (Lib.hid (by decide)).out)
    have R_h2 := Lib.hid e_h2
    have HE : Hid (circP x 0 = h2) := Lib.hid (by rw [hM, hq]; show heldF (circY x 0) 3212836864 1065353216 = h2; rw [circY_0, e_s, e_h2])
    clear hx hM hq hm hax e_ax e_s e_c e_ns e_nc e_h2
    go_enter Try.func8, Try.ntmps8
    have hB0 := Below.refl w.heap.size w
    have hz0 := hB0.size
    go_wp2_with fail
    refine (abs3_at L_x R_ax).mono ?_
    rintro e' w' ⟨rfl, hw⟩
    subst w'
    go_wp2_with fail
    refine (turn_at L_x R_s R_c HM).mono ?_
    rintro e' W1 ⟨rfl, hC⟩
    have hB1 := hB0.trans (hC.mono hz0)
    have hz1 := hB1.size
    clear hC hB0 hz0
    go_wp2_with fail
    refine (neg3_at L_s R_ns).mono ?_
    rintro e' w' ⟨rfl, hw⟩
    subst w'
    go_wp2_with fail
    refine (neg3_at L_c R_nc).mono ?_
    rintro e' w' ⟨rfl, hw⟩
    subst w'
    go_wp2_with fail
    refine (held3_at L_s (Lib.hid (by decide)) (Lib.hid (by decide)) R_h2).mono ?_
    rintro e' w' ⟨rfl, hw⟩
    subst w'
    go_wp2
    go_ret
    exact ⟨by rw [HE.out]; try rfl, hB1.alloc hz1 _⟩
  · subst h
    have HM : Hid (circN x % 4 = ((1 : Nat) : Int)) := Lib.hid hm
    obtain ⟨h2, e_h2⟩ : ∃ v, heldF c 3212836864 1065353216 = v := ⟨_, rfl⟩
    have L_h2 : Hid (h2 < 4294967296) := Lib.hid (by rw [← e_h2]; exact lt_held L_c.out (Lib.hid (by decide)).out (Lib.hid (by decide)).out)
    have R_h2 := Lib.hid e_h2
    have HE : Hid (circP x 0 = h2) := Lib.hid (by rw [hM, hq]; show heldF (circY x 1) 3212836864 1065353216 = h2; rw [circY_1, e_c, e_h2])
    clear hx hM hq hm hax e_ax e_s e_c e_ns e_nc e_h2
    go_enter Try.func8, Try.ntmps8
    have hB0 := Below.refl w.heap.size w
    have hz0 := hB0.size
    go_wp2_with fail
    refine (abs3_at L_x R_ax).mono ?_
    rintro e' w' ⟨rfl, hw⟩
    subst w'
    go_wp2_with fail
    refine (turn_at L_x R_s R_c HM).mono ?_
    rintro e' W1 ⟨rfl, hC⟩
    have hB1 := hB0.trans (hC.mono hz0)
    have hz1 := hB1.size
    clear hC hB0 hz0
    go_wp2_with fail
    refine (neg3_at L_s R_ns).mono ?_
    rintro e' w' ⟨rfl, hw⟩
    subst w'
    go_wp2_with fail
    refine (neg3_at L_c R_nc).mono ?_
    rintro e' w' ⟨rfl, hw⟩
    subst w'
    go_wp2_with fail
    refine (held3_at L_c (Lib.hid (by decide)) (Lib.hid (by decide)) R_h2).mono ?_
    rintro e' w' ⟨rfl, hw⟩
    subst w'
    go_wp2
    go_ret
    exact ⟨by rw [HE.out]; try rfl, hB1.alloc hz1 _⟩
  · subst h
    have HM : Hid (circN x % 4 = ((2 : Nat) : Int)) := Lib.hid hm
    obtain ⟨h2, e_h2⟩ : ∃ v, heldF ns 3212836864 1065353216 = v := ⟨_, rfl⟩
    have L_h2 : Hid (h2 < 4294967296) := Lib.hid (by rw [← e_h2]; exact lt_held L_ns.out (Lib.hid (by decide)).out (Lib.hid (by decide)).out)
    have R_h2 := Lib.hid e_h2
    have HE : Hid (circP x 0 = h2) := Lib.hid (by rw [hM, hq]; show heldF (circY x 2) 3212836864 1065353216 = h2; rw [circY_2, e_s, e_ns, e_h2])
    clear hx hM hq hm hax e_ax e_s e_c e_ns e_nc e_h2
    go_enter Try.func8, Try.ntmps8
    have hB0 := Below.refl w.heap.size w
    have hz0 := hB0.size
    go_wp2_with fail
    refine (abs3_at L_x R_ax).mono ?_
    rintro e' w' ⟨rfl, hw⟩
    subst w'
    go_wp2_with fail
    refine (turn_at L_x R_s R_c HM).mono ?_
    rintro e' W1 ⟨rfl, hC⟩
    have hB1 := hB0.trans (hC.mono hz0)
    have hz1 := hB1.size
    clear hC hB0 hz0
    go_wp2_with fail
    refine (neg3_at L_s R_ns).mono ?_
    rintro e' w' ⟨rfl, hw⟩
    subst w'
    go_wp2_with fail
    refine (neg3_at L_c R_nc).mono ?_
    rintro e' w' ⟨rfl, hw⟩
    subst w'
    go_wp2_with fail
    refine (held3_at L_ns (Lib.hid (by decide)) (Lib.hid (by decide)) R_h2).mono ?_
    rintro e' w' ⟨rfl, hw⟩
    subst w'
    go_wp2
    go_ret
    exact ⟨by rw [HE.out]; try rfl, hB1.alloc hz1 _⟩
  · subst h
    have HM : Hid (circN x % 4 = ((3 : Nat) : Int)) := Lib.hid hm
    obtain ⟨h2, e_h2⟩ : ∃ v, heldF nc 3212836864 1065353216 = v := ⟨_, rfl⟩
    have L_h2 : Hid (h2 < 4294967296) := Lib.hid (by rw [← e_h2]; exact lt_held L_nc.out (Lib.hid (by decide)).out (Lib.hid (by decide)).out)
    have R_h2 := Lib.hid e_h2
    have HE : Hid (circP x 0 = h2) := Lib.hid (by rw [hM, hq]; show heldF (circY x 3) 3212836864 1065353216 = h2; rw [circY_3, e_c, e_nc, e_h2])
    clear hx hM hq hm hax e_ax e_s e_c e_ns e_nc e_h2
    go_enter Try.func8, Try.ntmps8
    have hB0 := Below.refl w.heap.size w
    have hz0 := hB0.size
    go_wp2_with fail
    refine (abs3_at L_x R_ax).mono ?_
    rintro e' w' ⟨rfl, hw⟩
    subst w'
    go_wp2_with fail
    refine (turn_at L_x R_s R_c HM).mono ?_
    rintro e' W1 ⟨rfl, hC⟩
    have hB1 := hB0.trans (hC.mono hz0)
    have hz1 := hB1.size
    clear hC hB0 hz0
    go_wp2_with fail
    refine (neg3_at L_s R_ns).mono ?_
    rintro e' w' ⟨rfl, hw⟩
    subst w'
    go_wp2_with fail
    refine (neg3_at L_c R_nc).mono ?_
    rintro e' w' ⟨rfl, hw⟩
    subst w'
    go_wp2_with fail
    refine (held3_at L_nc (Lib.hid (by decide)) (Lib.hid (by decide)) R_h2).mono ?_
    rintro e' w' ⟨rfl, hw⟩
    subst w'
    go_wp2
    go_ret
    exact ⟨by rw [HE.out]; try rfl, hB1.alloc hz1 _⟩
set_option maxRecDepth 100000 in
set_option maxHeartbeats 3200000 in
theorem cos3_any (x : Nat) (w : World) (L_x : Hid (x < 4294967296)) : Calls Try.prog 10 #[.int .u32 (x : Int)] w (BR w (circP x 1)) := by
  obtain ⟨ax, e_ax⟩ : ∃ v, absP x = v := ⟨_, rfl⟩
  have L_ax : Hid (ax < 4294967296) := Lib.hid (by rw [← e_ax]; exact lt_abs x)
  have R_ax := Lib.hid e_ax
  have hax : x % 2147483648 = ax := e_ax
  by_cases hx : 2139095040 ≤ ax
  · have HE : Hid (circP x 1 = 2143289344) := Lib.hid (by
      unfold circP nanP infP
      rw [hax]
      by_cases h : 2139095040 < ax
      · rw [if_pos (decide_eq_true h)]
      · rw [if_neg (by rw [decide_eq_false h]; decide), if_pos (decide_eq_true (by omega))])
    have hd : decide ((2139095040 : Int) ≤ (ax : Int)) = true := decide_eq_true (by omega)
    clear hx hax e_ax
    go_enter Try.func10, Try.ntmps10
    have hB0 := Below.refl w.heap.size w
    have hz0 := hB0.size
    go_wp2_with fail
    refine (abs3_at L_x R_ax).mono ?_
    rintro e' w' ⟨rfl, hw⟩
    subst w'
    go_wp2
    go_ret
    exact ⟨by rw [HE.out]; try rfl, hB0⟩
  have hM : circP x 1 = heldF (circY x (circQ x 1)) 3212836864 1065353216 := by
    unfold circP nanP infP
    rw [hax, if_neg (by rw [decide_eq_false (by omega)]; decide), if_neg (by rw [decide_eq_false (by omega)]; decide)]
    rfl
  have hd : decide ((2139095040 : Int) ≤ (ax : Int)) = false := decide_eq_false (by omega)
  obtain ⟨m, hm⟩ : ∃ m : Nat, circN x % 4 = (m : Int) := ⟨(circN x % 4).toNat, by omega⟩
  have hm4 : m = 0 ∨ m = 1 ∨ m = 2 ∨ m = 3 := by omega
  have hq : circQ x 1 = (m + 1) % 4 := by unfold circQ; rw [hm]; omega
  obtain ⟨s, e_s⟩ : ∃ v, circS x = v := ⟨_, rfl⟩
  obtain ⟨c, e_c⟩ : ∃ v, circC x = v := ⟨_, rfl⟩
  have L_s : Hid (s < 4294967296) := Lib.hid (by rw [← e_s]; exact lt_circS L_x)
  have L_c : Hid (c < 4294967296) := Lib.hid (by rw [← e_c]; exact lt_circC)
  have R_s := Lib.hid e_s
  have R_c := Lib.hid e_c
  obtain ⟨ns, e_ns⟩ : ∃ v, negP s = v := ⟨_, rfl⟩
  have L_ns : Hid (ns < 4294967296) := Lib.hid (by rw [← e_ns]; exact neg_lt L_s.out)
  have R_ns := Lib.hid e_ns
  obtain ⟨nc, e_nc⟩ : ∃ v, negP c = v := ⟨_, rfl⟩
  have L_nc : Hid (nc < 4294967296) := Lib.hid (by rw [← e_nc]; exact neg_lt L_c.out)
  have R_nc := Lib.hid e_nc
  rcases hm4 with h | h | h | h
  · subst h
    have HM : Hid (circN x % 4 = ((0 : Nat) : Int)) := Lib.hid hm
    obtain ⟨h2, e_h2⟩ : ∃ v, heldF c 3212836864 1065353216 = v := ⟨_, rfl⟩
    have L_h2 : Hid (h2 < 4294967296) := Lib.hid (by rw [← e_h2]; exact lt_held L_c.out (Lib.hid (by decide)).out (Lib.hid (by decide)).out)
    have R_h2 := Lib.hid e_h2
    have HE : Hid (circP x 1 = h2) := Lib.hid (by rw [hM, hq]; show heldF (circY x 1) 3212836864 1065353216 = h2; rw [circY_1, e_c, e_h2])
    clear hx hM hq hm hax e_ax e_s e_c e_ns e_nc e_h2
    go_enter Try.func10, Try.ntmps10
    have hB0 := Below.refl w.heap.size w
    have hz0 := hB0.size
    go_wp2_with fail
    refine (abs3_at L_x R_ax).mono ?_
    rintro e' w' ⟨rfl, hw⟩
    subst w'
    go_wp2_with fail
    refine (turn_at L_x R_s R_c HM).mono ?_
    rintro e' W1 ⟨rfl, hC⟩
    have hB1 := hB0.trans (hC.mono hz0)
    have hz1 := hB1.size
    clear hC hB0 hz0
    go_wp2_with fail
    refine (neg3_at L_s R_ns).mono ?_
    rintro e' w' ⟨rfl, hw⟩
    subst w'
    go_wp2_with fail
    refine (neg3_at L_c R_nc).mono ?_
    rintro e' w' ⟨rfl, hw⟩
    subst w'
    go_wp2_with fail
    refine (held3_at L_c (Lib.hid (by decide)) (Lib.hid (by decide)) R_h2).mono ?_
    rintro e' w' ⟨rfl, hw⟩
    subst w'
    go_wp2
    go_ret
    exact ⟨by rw [HE.out]; try rfl, hB1.alloc hz1 _⟩
  · subst h
    have HM : Hid (circN x % 4 = ((1 : Nat) : Int)) := Lib.hid hm
    obtain ⟨h2, e_h2⟩ : ∃ v, heldF ns 3212836864 1065353216 = v := ⟨_, rfl⟩
    have L_h2 : Hid (h2 < 4294967296) := Lib.hid (by rw [← e_h2]; exact lt_held L_ns.out (Lib.hid (by decide)).out (Lib.hid (by decide)).out)
    have R_h2 := Lib.hid e_h2
    have HE : Hid (circP x 1 = h2) := Lib.hid (by rw [hM, hq]; show heldF (circY x 2) 3212836864 1065353216 = h2; rw [circY_2, e_s, e_ns, e_h2])
    clear hx hM hq hm hax e_ax e_s e_c e_ns e_nc e_h2
    go_enter Try.func10, Try.ntmps10
    have hB0 := Below.refl w.heap.size w
    have hz0 := hB0.size
    go_wp2_with fail
    refine (abs3_at L_x R_ax).mono ?_
    rintro e' w' ⟨rfl, hw⟩
    subst w'
    go_wp2_with fail
    refine (turn_at L_x R_s R_c HM).mono ?_
    rintro e' W1 ⟨rfl, hC⟩
    have hB1 := hB0.trans (hC.mono hz0)
    have hz1 := hB1.size
    clear hC hB0 hz0
    go_wp2_with fail
    refine (neg3_at L_s R_ns).mono ?_
    rintro e' w' ⟨rfl, hw⟩
    subst w'
    go_wp2_with fail
    refine (neg3_at L_c R_nc).mono ?_
    rintro e' w' ⟨rfl, hw⟩
    subst w'
    go_wp2_with fail
    refine (held3_at L_ns (Lib.hid (by decide)) (Lib.hid (by decide)) R_h2).mono ?_
    rintro e' w' ⟨rfl, hw⟩
    subst w'
    go_wp2
    go_ret
    exact ⟨by rw [HE.out]; try rfl, hB1.alloc hz1 _⟩
  · subst h
    have HM : Hid (circN x % 4 = ((2 : Nat) : Int)) := Lib.hid hm
    obtain ⟨h2, e_h2⟩ : ∃ v, heldF nc 3212836864 1065353216 = v := ⟨_, rfl⟩
    have L_h2 : Hid (h2 < 4294967296) := Lib.hid (by rw [← e_h2]; exact lt_held L_nc.out (Lib.hid (by decide)).out (Lib.hid (by decide)).out)
    have R_h2 := Lib.hid e_h2
    have HE : Hid (circP x 1 = h2) := Lib.hid (by rw [hM, hq]; show heldF (circY x 3) 3212836864 1065353216 = h2; rw [circY_3, e_c, e_nc, e_h2])
    clear hx hM hq hm hax e_ax e_s e_c e_ns e_nc e_h2
    go_enter Try.func10, Try.ntmps10
    have hB0 := Below.refl w.heap.size w
    have hz0 := hB0.size
    go_wp2_with fail
    refine (abs3_at L_x R_ax).mono ?_
    rintro e' w' ⟨rfl, hw⟩
    subst w'
    go_wp2_with fail
    refine (turn_at L_x R_s R_c HM).mono ?_
    rintro e' W1 ⟨rfl, hC⟩
    have hB1 := hB0.trans (hC.mono hz0)
    have hz1 := hB1.size
    clear hC hB0 hz0
    go_wp2_with fail
    refine (neg3_at L_s R_ns).mono ?_
    rintro e' w' ⟨rfl, hw⟩
    subst w'
    go_wp2_with fail
    refine (neg3_at L_c R_nc).mono ?_
    rintro e' w' ⟨rfl, hw⟩
    subst w'
    go_wp2_with fail
    refine (held3_at L_nc (Lib.hid (by decide)) (Lib.hid (by decide)) R_h2).mono ?_
    rintro e' w' ⟨rfl, hw⟩
    subst w'
    go_wp2
    go_ret
    exact ⟨by rw [HE.out]; try rfl, hB1.alloc hz1 _⟩
  · subst h
    have HM : Hid (circN x % 4 = ((3 : Nat) : Int)) := Lib.hid hm
    obtain ⟨h2, e_h2⟩ : ∃ v, heldF s 3212836864 1065353216 = v := ⟨_, rfl⟩
    have L_h2 : Hid (h2 < 4294967296) := Lib.hid (by rw [← e_h2]; exact lt_held L_s.out (Lib.hid (by decide)).out (Lib.hid (by decide)).out)
    have R_h2 := Lib.hid e_h2
    have HE : Hid (circP x 1 = h2) := Lib.hid (by rw [hM, hq]; show heldF (circY x 0) 3212836864 1065353216 = h2; rw [circY_0, e_s, e_h2])
    clear hx hM hq hm hax e_ax e_s e_c e_ns e_nc e_h2
    go_enter Try.func10, Try.ntmps10
    have hB0 := Below.refl w.heap.size w
    have hz0 := hB0.size
    go_wp2_with fail
    refine (abs3_at L_x R_ax).mono ?_
    rintro e' w' ⟨rfl, hw⟩
    subst w'
    go_wp2_with fail
    refine (turn_at L_x R_s R_c HM).mono ?_
    rintro e' W1 ⟨rfl, hC⟩
    have hB1 := hB0.trans (hC.mono hz0)
    have hz1 := hB1.size
    clear hC hB0 hz0
    go_wp2_with fail
    refine (neg3_at L_s R_ns).mono ?_
    rintro e' w' ⟨rfl, hw⟩
    subst w'
    go_wp2_with fail
    refine (neg3_at L_c R_nc).mono ?_
    rintro e' w' ⟨rfl, hw⟩
    subst w'
    go_wp2_with fail
    refine (held3_at L_s (Lib.hid (by decide)) (Lib.hid (by decide)) R_h2).mono ?_
    rintro e' w' ⟨rfl, hw⟩
    subst w'
    go_wp2
    go_ret
    exact ⟨by rw [HE.out]; try rfl, hB1.alloc hz1 _⟩
end Go.Proofs.Ytegeadkilolngaa
