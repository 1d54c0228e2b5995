/- The contracts of the program's circle, Sin, Cos, whole and Pow. -/
import Derived.Test.YtegeadkilolngaaElE
namespace Go.Proofs.Ytegeadkilolngaa
open Go.RowKit

theorem i64_and3 (n : Int) : bits .and .i64 n 3 = n % 4 := by
  have h127 : (BitVec.ofInt 64 3).toNat = 2 ^ 2 - 1 := by decide
  have key : (BitVec.ofInt 64 n &&& BitVec.ofInt 64 3).toNat = (n % ((2 ^ 64 : Nat) : Int)).toNat % 2 ^ 2 := by
    rw [BitVec.toNat_and, BitVec.toNat_ofInt, h127, Nat.and_two_pow_sub_one_eq_mod]
  show IntKind.i64.wrap ((BitVec.ofInt 64 n &&& BitVec.ofInt 64 3).toNat : Nat) = n % 4
  rw [key, IntKind.wrap_i64]
  omega
def cirK (x : Nat) : Nat := wholeP 2 (mulP 0 x 1059256707)
def cirR (x k : Nat) : Nat := fmaP 0 k 3013747049 (fmaP 0 k 3120406528 (fmaP 0 k 3217620992 x))
def cirZ (r : Nat) : Nat := mulP 0 r r
def cirA (r z : Nat) : Nat := fmaP 0 (mulP 0 r z) (rowP z [3109031169, 1007192201, 3190467243]) r
def circS (x : Nat) : Nat := cirA (cirR x (cirK x)) (cirZ (cirR x (cirK x)))
def circC (x : Nat) : Nat := rowP (cirZ (cirR x (cirK x))) [3132492641, 1026206379, 3204448256, 1065353216]
def circN (x : Nat) : Int := toIntP (cirK x)
def circQ (x q0 : Nat) : Nat := ((circN x % 4 + q0) % 4).toNat
def circY (x q : Nat) : Nat := if q = 0 then circS x else if q = 1 then circC x else if q = 2 then negP (circS x) else negP (circC x)
def circM (x q0 : Nat) : Nat := heldF (circY x (circQ x q0)) 3212836864 1065353216
theorem circY_0 (x : Nat) : circY x 0 = circS x := if_pos rfl
theorem circY_1 (x : Nat) : circY x 1 = circC x := by unfold circY; rw [if_neg (by decide), if_pos rfl]
theorem circY_2 (x : Nat) : circY x 2 = negP (circS x) := by unfold circY; rw [if_neg (by decide), if_neg (by decide), if_pos rfl]
theorem circY_3 (x : Nat) : circY x 3 = negP (circC x) := by unfold circY; rw [if_neg (by decide), if_neg (by decide), if_neg (by decide)]
theorem quarter {n : Int} {q0 Q : Nat} (hq : ((n % 4 + (q0 : Int)) % 4).toNat = Q) : ∃ m : Nat, bits .and .i64 n 3 = (m : Int) ∧ bits .and .i64 ((m : Int) + q0) 3 = (Q : Int) ∧ m < 4 ∧ (Q = 0 ∨ Q = 1 ∨ Q = 2 ∨ Q = 3) := by
  refine ⟨(n % 4).toNat, ?_, ?_, ?_, ?_⟩
  · rw [i64_and3]; omega
  · rw [i64_and3]; omega
  · omega
  · omega
/-- the sine, turned on by so many quarters -/
def circP (x q0 : Nat) : Nat := if nanP x = true then 2143289344 else if infP x = true then 2143289344 else circM x q0
set_option maxRecDepth 100000 in
set_option maxHeartbeats 3200000 in
theorem circ0_any (x : Nat) (w : World) (L_x : Hid (x < 4294967296)) : Calls Try.prog 24 #[.int .u32 (x : Int), .int .i64 0] w (BR w (circP x 0)) := by
  cases c1 : nanP x
  case true =>
    have C1 := Lib.hid c1
    have HE : Hid (circP x 0 = 2143289344) := Lib.hid (by unfold circP; rw [if_pos c1])
    clear c1
    go_enter Try.func24, Try.ntmps24
    have hB0 := Below.refl w.heap.size w
    have hz0 := hB0.size
    go_wp2_with fail
    refine (nan_at L_x C1).mono ?_
    rintro e' w' ⟨rfl, hw⟩
    subst w'
    go_wp2
    go_ret
    exact ⟨by rw [HE.out]; try rfl, hB0⟩
  have C1 := Lib.hid c1
  cases c2 : infP x
  case true =>
    have C2 := Lib.hid c2
    have HE : Hid (circP x 0 = 2143289344) := Lib.hid (by unfold circP; rw [if_neg (by rw [c1]; decide), if_pos c2])
    clear c1 c2
    go_enter Try.func24, Try.ntmps24
    have hB0 := Below.refl w.heap.size w
    have hz0 := hB0.size
    go_wp2_with fail
    refine (nan_at L_x C1).mono ?_
    rintro e' w' ⟨rfl, hw⟩
    subst w'
    go_wp2_with fail
    refine (inf_at L_x C2).mono ?_
    rintro e' w' ⟨rfl, hw⟩
    subst w'
    go_wp2
    go_ret
    exact ⟨by rw [HE.out]; try rfl, hB0⟩
  have C2 := Lib.hid c2
  obtain ⟨b, e_b⟩ : ∃ v, mulP 0 x 1059256707 = v := ⟨_, rfl⟩
  have L_b : Hid (b < 4294967296) := Lib.hid (by rw [← e_b]; exact (okR.mul 0 x 1059256707).1)
  have R_b := Lib.hid e_b
  obtain ⟨k, e_k⟩ : ∃ v, wholeP 2 b = v := ⟨_, rfl⟩
  have L_k : Hid (k < 4294967296) := Lib.hid (by rw [← e_k]; exact lt_whole 2 L_b.out)
  have R_k := Lib.hid e_k
  obtain ⟨r1, e_r1⟩ : ∃ v, fmaP 0 k 3217620992 x = v := ⟨_, rfl⟩
  have L_r1 : Hid (r1 < 4294967296) := Lib.hid (by rw [← e_r1]; exact lt_fma L_x.out)
  have R_r1 := Lib.hid e_r1
  obtain ⟨r2, e_r2⟩ : ∃ v, fmaP 0 k 3120406528 r1 = v := ⟨_, rfl⟩
  have L_r2 : Hid (r2 < 4294967296) := Lib.hid (by rw [← e_r2]; exact lt_fma L_r1.out)
  have R_r2 := Lib.hid e_r2
  obtain ⟨r, e_r⟩ : ∃ v, fmaP 0 k 3013747049 r2 = v := ⟨_, rfl⟩
  have L_r : Hid (r < 4294967296) := Lib.hid (by rw [← e_r]; exact lt_fma L_r2.out)
  have R_r := Lib.hid e_r
  obtain ⟨z, e_z⟩ : ∃ v, mulP 0 r r = v := ⟨_, rfl⟩
  have L_z : Hid (z < 4294967296) := Lib.hid (by rw [← e_z]; exact (okR.mul 0 r r).1)
  have R_z := Lib.hid e_z
  obtain ⟨n, e_n⟩ : ∃ v, toIntP k = v := ⟨_, rfl⟩
  have R_n := Lib.hid e_n
  obtain ⟨Q, hQ⟩ : ∃ Q, circQ x 0 = Q := ⟨_, rfl⟩
  have hM : circP x 0 = heldF (circY x Q) 3212836864 1065353216 := by
    unfold circP
    rw [if_neg (by rw [c1]; decide), if_neg (by rw [c2]; decide)]
    unfold circM
    rw [hQ]
  have hk : cirK x = k := by unfold cirK; rw [e_b, e_k]
  have hr : cirR x k = r := by unfold cirR; rw [e_r1, e_r2, e_r]
  have hz : cirZ r = z := e_z
  have hSv : circS x = cirA r z := by unfold circS; rw [hk, hr, hz]
  have hCv : circC x = rowP z [3132492641, 1026206379, 3204448256, 1065353216] := by unfold circC; rw [hk, hr, hz]
  obtain ⟨m, hA, hB, hm4, hQ4⟩ := quarter (n := n) (q0 := 0) (Q := Q) (by
    rw [← hQ]
    unfold circQ circN
    rw [hk, e_n]; try rfl)
  clear c1 c2 hQ hk hr hz
  simp only [Int.natCast_zero, Int.add_zero] at hB
  rcases hQ4 with h | h | h | h
  · have hC : bits .and .i64 (Q : Int) 1 = 0 := by rw [h]; kernel_rfl
    have hD : bits .and .i64 (Q : Int) 2 = 0 := by rw [h]; kernel_rfl
    obtain ⟨s1, e_s1⟩ : ∃ v, mulP 0 r z = v := ⟨_, rfl⟩
    have L_s1 : Hid (s1 < 4294967296) := Lib.hid (by rw [← e_s1]; exact (okR.mul 0 r z).1)
    have R_s1 := Lib.hid e_s1
    obtain ⟨s2, e_s2⟩ : ∃ v, rowP z [3109031169, 1007192201, 3190467243] = v := ⟨_, rfl⟩
    have L_s2 : Hid (s2 < 4294967296) := Lib.hid (by rw [← e_s2]; exact lt_row (by intro d hd; simp at hd; omega))
    have R_s2 := Lib.hid e_s2
    obtain ⟨y, e_y⟩ : ∃ v, fmaP 0 s1 s2 r = v := ⟨_, rfl⟩
    have L_y : Hid (y < 4294967296) := Lib.hid (by rw [← e_y]; exact lt_fma L_r.out)
    have R_y := Lib.hid e_y
    obtain ⟨h2, e_h2⟩ : ∃ v, heldF y 3212836864 1065353216 = v := ⟨_, rfl⟩
    have L_h2 : Hid (h2 < 4294967296) := Lib.hid (by rw [← e_h2]; exact lt_held L_y.out (Lib.hid (by decide)).out (Lib.hid (by decide)).out)
    have R_h2 := Lib.hid e_h2
    have HE : Hid (circP x 0 = h2) := Lib.hid (by
      rw [hM, h, circY_0, hSv]; unfold cirA
      rw [e_s1, e_s2, e_y, e_h2])
    clear h hM hSv hCv e_b e_k e_r1 e_r2 e_r e_z e_n e_s1 e_s2 e_y e_h2
    go_enter Try.func24, Try.ntmps24
    have hB0 := Below.refl w.heap.size w
    have hz0 := hB0.size
    go_wp2_with fail
    refine (nan_at L_x C1).mono ?_
    rintro e' w' ⟨rfl, hw⟩
    subst w'
    go_wp2_with fail
    refine (inf_at L_x C2).mono ?_
    rintro e' w' ⟨rfl, hw⟩
    subst w'
    go_wp2_with fail
    refine (mul0_at L_x (Lib.hid (by decide)) R_b).mono ?_
    rintro e' W1 ⟨rfl, hC⟩
    have hB1 := hB0.trans (hC.mono hz0)
    have hz1 := hB1.size
    clear hC hB0 hz0
    go_wp2_with fail
    refine (even_at L_b R_k).mono ?_
    rintro e' W2 ⟨rfl, hC⟩
    have hB2 := hB1.trans (hC.mono hz1)
    have hz2 := hB2.size
    clear hC hB1 hz1
    go_wp2_with fail
    refine (fma0_at L_k (Lib.hid (by decide)) L_x R_r1).mono ?_
    rintro e' W3 ⟨rfl, hC⟩
    have hB3 := hB2.trans (hC.mono hz2)
    have hz3 := hB3.size
    clear hC hB2 hz2
    go_wp2_with fail
    refine (fma0_at L_k (Lib.hid (by decide)) L_r1 R_r2).mono ?_
    rintro e' W4 ⟨rfl, hC⟩
    have hB4 := hB3.trans (hC.mono hz3)
    have hz4 := hB4.size
    clear hC hB3 hz3
    go_wp2_with fail
    refine (fma0_at L_k (Lib.hid (by decide)) L_r2 R_r).mono ?_
    rintro e' W5 ⟨rfl, hC⟩
    have hB5 := hB4.trans (hC.mono hz4)
    have hz5 := hB5.size
    clear hC hB4 hz4
    go_wp2_with fail
    refine (mul0_at L_r L_r R_z).mono ?_
    rintro e' W6 ⟨rfl, hC⟩
    have hB6 := hB5.trans (hC.mono hz5)
    have hz6 := hB6.size
    clear hC hB5 hz5
    go_wp2_with fail
    refine (toint_at L_k R_n).mono ?_
    rintro e' W7 ⟨rfl, hC⟩
    have hB7 := hB6.trans (hC.mono hz6)
    have hz7 := hB7.size
    clear hC hB6 hz6
    go_wp2_with fail
    refine (mul0_at L_r L_z R_s1).mono ?_
    rintro e' W8 ⟨rfl, hC⟩
    have hB8 := hB7.trans (hC.mono hz7)
    have hz8 := hB8.size
    clear hC hB7 hz7
    go_wp2_with fail
    refine (row_any (l := [1007192201, 3190467243]) (c := 3109031169) (B := W8.heap.size + 1) L_z (Lib.hid rfl) (by decide) (by decide) (by decide) (by simp) (wr_new W8 [3109031169, 1007192201, 3190467243]) (Lib.hid (fun d hd => by simp at hd; omega))).mono ?_
    rintro e' W9 ⟨rfl, hC⟩
    rw [R_s2.out]
    have hB9 := (hB8.alloc hz8 _).trans (hC.mono (by simp; omega))
    have hz9 := hB9.size
    clear hC hB8 hz8
    go_wp2_with fail
    refine (fma0_at L_s1 L_s2 L_r R_y).mono ?_
    rintro e' W10 ⟨rfl, hC⟩
    have hB10 := hB9.trans (hC.mono hz9)
    have hz10 := hB10.size
    clear hC hB9 hz9
    go_wp2_with fail
    refine (held_at L_y (Lib.hid (by decide)) (Lib.hid (by decide)) R_h2).mono ?_
    rintro e' w' ⟨rfl, hw⟩
    subst w'
    go_wp2
    go_ret
    exact ⟨by rw [HE.out]; try rfl, hB10⟩
  · have hC : bits .and .i64 (Q : Int) 1 = 1 := by rw [h]; kernel_rfl
    have hD : bits .and .i64 (Q : Int) 2 = 0 := by rw [h]; kernel_rfl
    obtain ⟨y, e_y⟩ : ∃ v, rowP z [3132492641, 1026206379, 3204448256, 1065353216] = v := ⟨_, rfl⟩
    have L_y : Hid (y < 4294967296) := Lib.hid (by rw [← e_y]; exact lt_row (by intro d hd; simp at hd; omega))
    have R_y := Lib.hid e_y
    obtain ⟨h2, e_h2⟩ : ∃ v, heldF y 3212836864 1065353216 = v := ⟨_, rfl⟩
    have L_h2 : Hid (h2 < 4294967296) := Lib.hid (by rw [← e_h2]; exact lt_held L_y.out (Lib.hid (by decide)).out (Lib.hid (by decide)).out)
    have R_h2 := Lib.hid e_h2
    have HE : Hid (circP x 0 = h2) := Lib.hid (by
      rw [hM, h, circY_1, hCv]
      rw [e_y, e_h2])
    clear h hM hSv hCv e_b e_k e_r1 e_r2 e_r e_z e_n e_y e_h2
    go_enter Try.func24, Try.ntmps24
    have hB0 := Below.refl w.heap.size w
    have hz0 := hB0.size
    go_wp2_with fail
    refine (nan_at L_x C1).mono ?_
    rintro e' w' ⟨rfl, hw⟩
    subst w'
    go_wp2_with fail
    refine (inf_at L_x C2).mono ?_
    rintro e' w' ⟨rfl, hw⟩
    subst w'
    go_wp2_with fail
    refine (mul0_at L_x (Lib.hid (by decide)) R_b).mono ?_
    rintro e' W1 ⟨rfl, hC⟩
    have hB1 := hB0.trans (hC.mono hz0)
    have hz1 := hB1.size
    clear hC hB0 hz0
    go_wp2_with fail
    refine (even_at L_b R_k).mono ?_
    rintro e' W2 ⟨rfl, hC⟩
    have hB2 := hB1.trans (hC.mono hz1)
    have hz2 := hB2.size
    clear hC hB1 hz1
    go_wp2_with fail
    refine (fma0_at L_k (Lib.hid (by decide)) L_x R_r1).mono ?_
    rintro e' W3 ⟨rfl, hC⟩
    have hB3 := hB2.trans (hC.mono hz2)
    have hz3 := hB3.size
    clear hC hB2 hz2
    go_wp2_with fail
    refine (fma0_at L_k (Lib.hid (by decide)) L_r1 R_r2).mono ?_
    rintro e' W4 ⟨rfl, hC⟩
    have hB4 := hB3.trans (hC.mono hz3)
    have hz4 := hB4.size
    clear hC hB3 hz3
    go_wp2_with fail
    refine (fma0_at L_k (Lib.hid (by decide)) L_r2 R_r).mono ?_
    rintro e' W5 ⟨rfl, hC⟩
    have hB5 := hB4.trans (hC.mono hz4)
    have hz5 := hB5.size
    clear hC hB4 hz4
    go_wp2_with fail
    refine (mul0_at L_r L_r R_z).mono ?_
    rintro e' W6 ⟨rfl, hC⟩
    have hB6 := hB5.trans (hC.mono hz5)
    have hz6 := hB6.size
    clear hC hB5 hz5
    go_wp2_with fail
    refine (toint_at L_k R_n).mono ?_
    rintro e' W7 ⟨rfl, hC⟩
    have hB7 := hB6.trans (hC.mono hz6)
    have hz7 := hB7.size
    clear hC hB6 hz6
    go_wp2_with fail
    refine (row_any (l := [1026206379, 3204448256, 1065353216]) (c := 3132492641) (B := W7.heap.size + 1) L_z (Lib.hid rfl) (by decide) (by decide) (by decide) (by simp) (wr_new W7 [3132492641, 1026206379, 3204448256, 1065353216]) (Lib.hid (fun d hd => by simp at hd; omega))).mono ?_
    rintro e' W8 ⟨rfl, hC⟩
    rw [R_y.out]
    have hB8 := (hB7.alloc hz7 _).trans (hC.mono (by simp; omega))
    have hz8 := hB8.size
    clear hC hB7 hz7
    go_wp2_with fail
    refine (held_at L_y (Lib.hid (by decide)) (Lib.hid (by decide)) R_h2).mono ?_
    rintro e' w' ⟨rfl, hw⟩
    subst w'
    go_wp2
    go_ret
    exact ⟨by rw [HE.out]; try rfl, hB8⟩
  · have hC : bits .and .i64 (Q : Int) 1 = 0 := by rw [h]; kernel_rfl
    have hD : bits .and .i64 (Q : Int) 2 = 2 := by rw [h]; kernel_rfl
    obtain ⟨s1, e_s1⟩ : ∃ v, mulP 0 r z = v := ⟨_, rfl⟩
    have L_s1 : Hid (s1 < 4294967296) := Lib.hid (by rw [← e_s1]; exact (okR.mul 0 r z).1)
    have R_s1 := Lib.hid e_s1
    obtain ⟨s2, e_s2⟩ : ∃ v, rowP z [3109031169, 1007192201, 3190467243] = v := ⟨_, rfl⟩
    have L_s2 : Hid (s2 < 4294967296) := Lib.hid (by rw [← e_s2]; exact lt_row (by intro d hd; simp at hd; omega))
    have R_s2 := Lib.hid e_s2
    obtain ⟨y, e_y⟩ : ∃ v, fmaP 0 s1 s2 r = v := ⟨_, rfl⟩
    have L_y : Hid (y < 4294967296) := Lib.hid (by rw [← e_y]; exact lt_fma L_r.out)
    have R_y := Lib.hid e_y
    obtain ⟨vv, e_vv⟩ : ∃ v, negP y = v := ⟨_, rfl⟩
    have L_vv : Hid (vv < 4294967296) := Lib.hid (by rw [← e_vv]; exact neg_lt L_y.out)
    have R_vv := Lib.hid e_vv
    obtain ⟨h2, e_h2⟩ : ∃ v, heldF vv 3212836864 1065353216 = v := ⟨_, rfl⟩
    have L_h2 : Hid (h2 < 4294967296) := Lib.hid (by rw [← e_h2]; exact lt_held L_vv.out (Lib.hid (by decide)).out (Lib.hid (by decide)).out)
    have R_h2 := Lib.hid e_h2
    have HE : Hid (circP x 0 = h2) := Lib.hid (by
      rw [hM, h, circY_2, hSv]; unfold cirA
      rw [e_s1, e_s2, e_y, e_vv, e_h2])
    clear h hM hSv hCv e_b e_k e_r1 e_r2 e_r e_z e_n e_s1 e_s2 e_y e_vv e_h2
    go_enter Try.func24, Try.ntmps24
    have hB0 := Below.refl w.heap.size w
    have hz0 := hB0.size
    go_wp2_with fail
    refine (nan_at L_x C1).mono ?_
    rintro e' w' ⟨rfl, hw⟩
    subst w'
    go_wp2_with fail
    refine (inf_at L_x C2).mono ?_
    rintro e' w' ⟨rfl, hw⟩
    subst w'
    go_wp2_with fail
    refine (mul0_at L_x (Lib.hid (by decide)) R_b).mono ?_
    rintro e' W1 ⟨rfl, hC⟩
    have hB1 := hB0.trans (hC.mono hz0)
    have hz1 := hB1.size
    clear hC hB0 hz0
    go_wp2_with fail
    refine (even_at L_b R_k).mono ?_
    rintro e' W2 ⟨rfl, hC⟩
    have hB2 := hB1.trans (hC.mono hz1)
    have hz2 := hB2.size
    clear hC hB1 hz1
    go_wp2_with fail
    refine (fma0_at L_k (Lib.hid (by decide)) L_x R_r1).mono ?_
    rintro e' W3 ⟨rfl, hC⟩
    have hB3 := hB2.trans (hC.mono hz2)
    have hz3 := hB3.size
    clear hC hB2 hz2
    go_wp2_with fail
    refine (fma0_at L_k (Lib.hid (by decide)) L_r1 R_r2).mono ?_
    rintro e' W4 ⟨rfl, hC⟩
    have hB4 := hB3.trans (hC.mono hz3)
    have hz4 := hB4.size
    clear hC hB3 hz3
    go_wp2_with fail
    refine (fma0_at L_k (Lib.hid (by decide)) L_r2 R_r).mono ?_
    rintro e' W5 ⟨rfl, hC⟩
    have hB5 := hB4.trans (hC.mono hz4)
    have hz5 := hB5.size
    clear hC hB4 hz4
    go_wp2_with fail
    refine (mul0_at L_r L_r R_z).mono ?_
    rintro e' W6 ⟨rfl, hC⟩
    have hB6 := hB5.trans (hC.mono hz5)
    have hz6 := hB6.size
    clear hC hB5 hz5
    go_wp2_with fail
    refine (toint_at L_k R_n).mono ?_
    rintro e' W7 ⟨rfl, hC⟩
    have hB7 := hB6.trans (hC.mono hz6)
    have hz7 := hB7.size
    clear hC hB6 hz6
    go_wp2_with fail
    refine (mul0_at L_r L_z R_s1).mono ?_
    rintro e' W8 ⟨rfl, hC⟩
    have hB8 := hB7.trans (hC.mono hz7)
    have hz8 := hB8.size
    clear hC hB7 hz7
    go_wp2_with fail
    refine (row_any (l := [1007192201, 3190467243]) (c := 3109031169) (B := W8.heap.size + 1) L_z (Lib.hid rfl) (by decide) (by decide) (by decide) (by simp) (wr_new W8 [3109031169, 1007192201, 3190467243]) (Lib.hid (fun d hd => by simp at hd; omega))).mono ?_
    rintro e' W9 ⟨rfl, hC⟩
    rw [R_s2.out]
    have hB9 := (hB8.alloc hz8 _).trans (hC.mono (by simp; omega))
    have hz9 := hB9.size
    clear hC hB8 hz8
    go_wp2_with fail
    refine (fma0_at L_s1 L_s2 L_r R_y).mono ?_
    rintro e' W10 ⟨rfl, hC⟩
    have hB10 := hB9.trans (hC.mono hz9)
    have hz10 := hB10.size
    clear hC hB9 hz9
    go_wp2_with fail
    refine (neg_at L_y R_vv).mono ?_
    rintro e' w' ⟨rfl, hw⟩
    subst w'
    go_wp2_with fail
    refine (held_at L_vv (Lib.hid (by decide)) (Lib.hid (by decide)) R_h2).mono ?_
    rintro e' w' ⟨rfl, hw⟩
    subst w'
    go_wp2
    go_ret
    exact ⟨by rw [HE.out]; try rfl, hB10⟩
  · have hC : bits .and .i64 (Q : Int) 1 = 1 := by rw [h]; kernel_rfl
    have hD : bits .and .i64 (Q : Int) 2 = 2 := by rw [h]; kernel_rfl
    obtain ⟨y, e_y⟩ : ∃ v, rowP z [3132492641, 1026206379, 3204448256, 1065353216] = v := ⟨_, rfl⟩
    have L_y : Hid (y < 4294967296) := Lib.hid (by rw [← e_y]; exact lt_row (by intro d hd; simp at hd; omega))
    have R_y := Lib.hid e_y
    obtain ⟨vv, e_vv⟩ : ∃ v, negP y = v := ⟨_, rfl⟩
    have L_vv : Hid (vv < 4294967296) := Lib.hid (by rw [← e_vv]; exact neg_lt L_y.out)
    have R_vv := Lib.hid e_vv
    obtain ⟨h2, e_h2⟩ : ∃ v, heldF vv 3212836864 1065353216 = v := ⟨_, rfl⟩
    have L_h2 : Hid (h2 < 4294967296) := Lib.hid (by rw [← e_h2]; exact lt_held L_vv.out (Lib.hid (by decide)).out (Lib.hid (by decide)).out)
    have R_h2 := Lib.hid e_h2
    have HE : Hid (circP x 0 = h2) := Lib.hid (by
      rw [hM, h, circY_3, hCv]
      rw [e_y, e_vv, e_h2])
    clear h hM hSv hCv e_b e_k e_r1 e_r2 e_r e_z e_n e_y e_vv e_h2
    go_enter Try.func24, Try.ntmps24
    have hB0 := Below.refl w.heap.size w
    have hz0 := hB0.size
    go_wp2_with fail
    refine (nan_at L_x C1).mono ?_
    rintro e' w' ⟨rfl, hw⟩
    subst w'
    go_wp2_with fail
    refine (inf_at L_x C2).mono ?_
    rintro e' w' ⟨rfl, hw⟩
    subst w'
    go_wp2_with fail
    refine (mul0_at L_x (Lib.hid (by decide)) R_b).mono ?_
    rintro e' W1 ⟨rfl, hC⟩
    have hB1 := hB0.trans (hC.mono hz0)
    have hz1 := hB1.size
    clear hC hB0 hz0
    go_wp2_with fail
    refine (even_at L_b R_k).mono ?_
    rintro e' W2 ⟨rfl, hC⟩
    have hB2 := hB1.trans (hC.mono hz1)
    have hz2 := hB2.size
    clear hC hB1 hz1
    go_wp2_with fail
    refine (fma0_at L_k (Lib.hid (by decide)) L_x R_r1).mono ?_
    rintro e' W3 ⟨rfl, hC⟩
    have hB3 := hB2.trans (hC.mono hz2)
    have hz3 := hB3.size
    clear hC hB2 hz2
    go_wp2_with fail
    refine (fma0_at L_k (Lib.hid (by decide)) L_r1 R_r2).mono ?_
    rintro e' W4 ⟨rfl, hC⟩
    have hB4 := hB3.trans (hC.mono hz3)
    have hz4 := hB4.size
    clear hC hB3 hz3
    go_wp2_with fail
    refine (fma0_at L_k (Lib.hid (by decide)) L_r2 R_r).mono ?_
    rintro e' W5 ⟨rfl, hC⟩
    have hB5 := hB4.trans (hC.mono hz4)
    have hz5 := hB5.size
    clear hC hB4 hz4
    go_wp2_with fail
    refine (mul0_at L_r L_r R_z).mono ?_
    rintro e' W6 ⟨rfl, hC⟩
    have hB6 := hB5.trans (hC.mono hz5)
    have hz6 := hB6.size
    clear hC hB5 hz5
    go_wp2_with fail
    refine (toint_at L_k R_n).mono ?_
    rintro e' W7 ⟨rfl, hC⟩
    have hB7 := hB6.trans (hC.mono hz6)
    have hz7 := hB7.size
    clear hC hB6 hz6
    go_wp2_with fail
    refine (row_any (l := [1026206379, 3204448256, 1065353216]) (c := 3132492641) (B := W7.heap.size + 1) L_z (Lib.hid rfl) (by decide) (by decide) (by decide) (by simp) (wr_new W7 [3132492641, 1026206379, 3204448256, 1065353216]) (Lib.hid (fun d hd => by simp at hd; omega))).mono ?_
    rintro e' W8 ⟨rfl, hC⟩
    rw [R_y.out]
    have hB8 := (hB7.alloc hz7 _).trans (hC.mono (by simp; omega))
    have hz8 := hB8.size
    clear hC hB7 hz7
    go_wp2_with fail
    refine (neg_at L_y R_vv).mono ?_
    rintro e' w' ⟨rfl, hw⟩
    subst w'
    go_wp2_with fail
    refine (held_at L_vv (Lib.hid (by decide)) (Lib.hid (by decide)) R_h2).mono ?_
    rintro e' w' ⟨rfl, hw⟩
    subst w'
    go_wp2
    go_ret
    exact ⟨by rw [HE.out]; try rfl, hB8⟩
set_option maxRecDepth 100000 in
set_option maxHeartbeats 3200000 in
theorem circ1_any (x : Nat) (w : World) (L_x : Hid (x < 4294967296)) : Calls Try.prog 24 #[.int .u32 (x : Int), .int .i64 1] w (BR w (circP x 1)) := by
  cases c1 : nanP x
  case true =>
    have C1 := Lib.hid c1
    have HE : Hid (circP x 1 = 2143289344) := Lib.hid (by unfold circP; rw [if_pos c1])
    clear c1
    go_enter Try.func24, Try.ntmps24
    have hB0 := Below.refl w.heap.size w
    have hz0 := hB0.size
    go_wp2_with fail
    refine (nan_at L_x C1).mono ?_
    rintro e' w' ⟨rfl, hw⟩
    subst w'
    go_wp2
    go_ret
    exact ⟨by rw [HE.out]; try rfl, hB0⟩
  have C1 := Lib.hid c1
  cases c2 : infP x
  case true =>
    have C2 := Lib.hid c2
    have HE : Hid (circP x 1 = 2143289344) := Lib.hid (by unfold circP; rw [if_neg (by rw [c1]; decide), if_pos c2])
    clear c1 c2
    go_enter Try.func24, Try.ntmps24
    have hB0 := Below.refl w.heap.size w
    have hz0 := hB0.size
    go_wp2_with fail
    refine (nan_at L_x C1).mono ?_
    rintro e' w' ⟨rfl, hw⟩
    subst w'
    go_wp2_with fail
    refine (inf_at L_x C2).mono ?_
    rintro e' w' ⟨rfl, hw⟩
    subst w'
    go_wp2
    go_ret
    exact ⟨by rw [HE.out]; try rfl, hB0⟩
  have C2 := Lib.hid c2
  obtain ⟨b, e_b⟩ : ∃ v, mulP 0 x 1059256707 = v := ⟨_, rfl⟩
  have L_b : Hid (b < 4294967296) := Lib.hid (by rw [← e_b]; exact (okR.mul 0 x 1059256707).1)
  have R_b := Lib.hid e_b
  obtain ⟨k, e_k⟩ : ∃ v, wholeP 2 b = v := ⟨_, rfl⟩
  have L_k : Hid (k < 4294967296) := Lib.hid (by rw [← e_k]; exact lt_whole 2 L_b.out)
  have R_k := Lib.hid e_k
  obtain ⟨r1, e_r1⟩ : ∃ v, fmaP 0 k 3217620992 x = v := ⟨_, rfl⟩
  have L_r1 : Hid (r1 < 4294967296) := Lib.hid (by rw [← e_r1]; exact lt_fma L_x.out)
  have R_r1 := Lib.hid e_r1
  obtain ⟨r2, e_r2⟩ : ∃ v, fmaP 0 k 3120406528 r1 = v := ⟨_, rfl⟩
  have L_r2 : Hid (r2 < 4294967296) := Lib.hid (by rw [← e_r2]; exact lt_fma L_r1.out)
  have R_r2 := Lib.hid e_r2
  obtain ⟨r, e_r⟩ : ∃ v, fmaP 0 k 3013747049 r2 = v := ⟨_, rfl⟩
  have L_r : Hid (r < 4294967296) := Lib.hid (by rw [← e_r]; exact lt_fma L_r2.out)
  have R_r := Lib.hid e_r
  obtain ⟨z, e_z⟩ : ∃ v, mulP 0 r r = v := ⟨_, rfl⟩
  have L_z : Hid (z < 4294967296) := Lib.hid (by rw [← e_z]; exact (okR.mul 0 r r).1)
  have R_z := Lib.hid e_z
  obtain ⟨n, e_n⟩ : ∃ v, toIntP k = v := ⟨_, rfl⟩
  have R_n := Lib.hid e_n
  obtain ⟨Q, hQ⟩ : ∃ Q, circQ x 1 = Q := ⟨_, rfl⟩
  have hM : circP x 1 = heldF (circY x Q) 3212836864 1065353216 := by
    unfold circP
    rw [if_neg (by rw [c1]; decide), if_neg (by rw [c2]; decide)]
    unfold circM
    rw [hQ]
  have hk : cirK x = k := by unfold cirK; rw [e_b, e_k]
  have hr : cirR x k = r := by unfold cirR; rw [e_r1, e_r2, e_r]
  have hz : cirZ r = z := e_z
  have hSv : circS x = cirA r z := by unfold circS; rw [hk, hr, hz]
  have hCv : circC x = rowP z [3132492641, 1026206379, 3204448256, 1065353216] := by unfold circC; rw [hk, hr, hz]
  obtain ⟨m, hA, hB, hm4, hQ4⟩ := quarter (n := n) (q0 := 1) (Q := Q) (by
    rw [← hQ]
    unfold circQ circN
    rw [hk, e_n]; try rfl)
  clear c1 c2 hQ hk hr hz
  simp only [Int.natCast_one] at hB
  rcases hQ4 with h | h | h | h
  · have hC : bits .and .i64 (Q : Int) 1 = 0 := by rw [h]; kernel_rfl
    have hD : bits .and .i64 (Q : Int) 2 = 0 := by rw [h]; kernel_rfl
    obtain ⟨s1, e_s1⟩ : ∃ v, mulP 0 r z = v := ⟨_, rfl⟩
    have L_s1 : Hid (s1 < 4294967296) := Lib.hid (by rw [← e_s1]; exact (okR.mul 0 r z).1)
    have R_s1 := Lib.hid e_s1
    obtain ⟨s2, e_s2⟩ : ∃ v, rowP z [3109031169, 1007192201, 3190467243] = v := ⟨_, rfl⟩
    have L_s2 : Hid (s2 < 4294967296) := Lib.hid (by rw [← e_s2]; exact lt_row (by intro d hd; simp at hd; omega))
    have R_s2 := Lib.hid e_s2
    obtain ⟨y, e_y⟩ : ∃ v, fmaP 0 s1 s2 r = v := ⟨_, rfl⟩
    have L_y : Hid (y < 4294967296) := Lib.hid (by rw [← e_y]; exact lt_fma L_r.out)
    have R_y := Lib.hid e_y
    obtain ⟨h2, e_h2⟩ : ∃ v, heldF y 3212836864 1065353216 = v := ⟨_, rfl⟩
    have L_h2 : Hid (h2 < 4294967296) := Lib.hid (by rw [← e_h2]; exact lt_held L_y.out (Lib.hid (by decide)).out (Lib.hid (by decide)).out)
    have R_h2 := Lib.hid e_h2
    have HE : Hid (circP x 1 = h2) := Lib.hid (by
      rw [hM, h, circY_0, hSv]; unfold cirA
      rw [e_s1, e_s2, e_y, e_h2])
    clear h hM hSv hCv e_b e_k e_r1 e_r2 e_r e_z e_n e_s1 e_s2 e_y e_h2
    go_enter Try.func24, Try.ntmps24
    have hB0 := Below.refl w.heap.size w
    have hz0 := hB0.size
    go_wp2_with fail
    refine (nan_at L_x C1).mono ?_
    rintro e' w' ⟨rfl, hw⟩
    subst w'
    go_wp2_with fail
    refine (inf_at L_x C2).mono ?_
    rintro e' w' ⟨rfl, hw⟩
    subst w'
    go_wp2_with fail
    refine (mul0_at L_x (Lib.hid (by decide)) R_b).mono ?_
    rintro e' W1 ⟨rfl, hC⟩
    have hB1 := hB0.trans (hC.mono hz0)
    have hz1 := hB1.size
    clear hC hB0 hz0
    go_wp2_with fail
    refine (even_at L_b R_k).mono ?_
    rintro e' W2 ⟨rfl, hC⟩
    have hB2 := hB1.trans (hC.mono hz1)
    have hz2 := hB2.size
    clear hC hB1 hz1
    go_wp2_with fail
    refine (fma0_at L_k (Lib.hid (by decide)) L_x R_r1).mono ?_
    rintro e' W3 ⟨rfl, hC⟩
    have hB3 := hB2.trans (hC.mono hz2)
    have hz3 := hB3.size
    clear hC hB2 hz2
    go_wp2_with fail
    refine (fma0_at L_k (Lib.hid (by decide)) L_r1 R_r2).mono ?_
    rintro e' W4 ⟨rfl, hC⟩
    have hB4 := hB3.trans (hC.mono hz3)
    have hz4 := hB4.size
    clear hC hB3 hz3
    go_wp2_with fail
    refine (fma0_at L_k (Lib.hid (by decide)) L_r2 R_r).mono ?_
    rintro e' W5 ⟨rfl, hC⟩
    have hB5 := hB4.trans (hC.mono hz4)
    have hz5 := hB5.size
    clear hC hB4 hz4
    go_wp2_with fail
    refine (mul0_at L_r L_r R_z).mono ?_
    rintro e' W6 ⟨rfl, hC⟩
    have hB6 := hB5.trans (hC.mono hz5)
    have hz6 := hB6.size
    clear hC hB5 hz5
    go_wp2_with fail
    refine (toint_at L_k R_n).mono ?_
    rintro e' W7 ⟨rfl, hC⟩
    have hB7 := hB6.trans (hC.mono hz6)
    have hz7 := hB7.size
    clear hC hB6 hz6
    go_wp2_with fail
    refine (mul0_at L_r L_z R_s1).mono ?_
    rintro e' W8 ⟨rfl, hC⟩
    have hB8 := hB7.trans (hC.mono hz7)
    have hz8 := hB8.size
    clear hC hB7 hz7
    go_wp2_with fail
    refine (row_any (l := [1007192201, 3190467243]) (c := 3109031169) (B := W8.heap.size + 1) L_z (Lib.hid rfl) (by decide) (by decide) (by decide) (by simp) (wr_new W8 [3109031169, 1007192201, 3190467243]) (Lib.hid (fun d hd => by simp at hd; omega))).mono ?_
    rintro e' W9 ⟨rfl, hC⟩
    rw [R_s2.out]
    have hB9 := (hB8.alloc hz8 _).trans (hC.mono (by simp; omega))
    have hz9 := hB9.size
    clear hC hB8 hz8
    go_wp2_with fail
    refine (fma0_at L_s1 L_s2 L_r R_y).mono ?_
    rintro e' W10 ⟨rfl, hC⟩
    have hB10 := hB9.trans (hC.mono hz9)
    have hz10 := hB10.size
    clear hC hB9 hz9
    go_wp2_with fail
    refine (held_at L_y (Lib.hid (by decide)) (Lib.hid (by decide)) R_h2).mono ?_
    rintro e' w' ⟨rfl, hw⟩
    subst w'
    go_wp2
    go_ret
    exact ⟨by rw [HE.out]; try rfl, hB10⟩
  · have hC : bits .and .i64 (Q : Int) 1 = 1 := by rw [h]; kernel_rfl
    have hD : bits .and .i64 (Q : Int) 2 = 0 := by rw [h]; kernel_rfl
    obtain ⟨y, e_y⟩ : ∃ v, rowP z [3132492641, 1026206379, 3204448256, 1065353216] = v := ⟨_, rfl⟩
    have L_y : Hid (y < 4294967296) := Lib.hid (by rw [← e_y]; exact lt_row (by intro d hd; simp at hd; omega))
    have R_y := Lib.hid e_y
    obtain ⟨h2, e_h2⟩ : ∃ v, heldF y 3212836864 1065353216 = v := ⟨_, rfl⟩
    have L_h2 : Hid (h2 < 4294967296) := Lib.hid (by rw [← e_h2]; exact lt_held L_y.out (Lib.hid (by decide)).out (Lib.hid (by decide)).out)
    have R_h2 := Lib.hid e_h2
    have HE : Hid (circP x 1 = h2) := Lib.hid (by
      rw [hM, h, circY_1, hCv]
      rw [e_y, e_h2])
    clear h hM hSv hCv e_b e_k e_r1 e_r2 e_r e_z e_n e_y e_h2
    go_enter Try.func24, Try.ntmps24
    have hB0 := Below.refl w.heap.size w
    have hz0 := hB0.size
    go_wp2_with fail
    refine (nan_at L_x C1).mono ?_
    rintro e' w' ⟨rfl, hw⟩
    subst w'
    go_wp2_with fail
    refine (inf_at L_x C2).mono ?_
    rintro e' w' ⟨rfl, hw⟩
    subst w'
    go_wp2_with fail
    refine (mul0_at L_x (Lib.hid (by decide)) R_b).mono ?_
    rintro e' W1 ⟨rfl, hC⟩
    have hB1 := hB0.trans (hC.mono hz0)
    have hz1 := hB1.size
    clear hC hB0 hz0
    go_wp2_with fail
    refine (even_at L_b R_k).mono ?_
    rintro e' W2 ⟨rfl, hC⟩
    have hB2 := hB1.trans (hC.mono hz1)
    have hz2 := hB2.size
    clear hC hB1 hz1
    go_wp2_with fail
    refine (fma0_at L_k (Lib.hid (by decide)) L_x R_r1).mono ?_
    rintro e' W3 ⟨rfl, hC⟩
    have hB3 := hB2.trans (hC.mono hz2)
    have hz3 := hB3.size
    clear hC hB2 hz2
    go_wp2_with fail
    refine (fma0_at L_k (Lib.hid (by decide)) L_r1 R_r2).mono ?_
    rintro e' W4 ⟨rfl, hC⟩
    have hB4 := hB3.trans (hC.mono hz3)
    have hz4 := hB4.size
    clear hC hB3 hz3
    go_wp2_with fail
    refine (fma0_at L_k (Lib.hid (by decide)) L_r2 R_r).mono ?_
    rintro e' W5 ⟨rfl, hC⟩
    have hB5 := hB4.trans (hC.mono hz4)
    have hz5 := hB5.size
    clear hC hB4 hz4
    go_wp2_with fail
    refine (mul0_at L_r L_r R_z).mono ?_
    rintro e' W6 ⟨rfl, hC⟩
    have hB6 := hB5.trans (hC.mono hz5)
    have hz6 := hB6.size
    clear hC hB5 hz5
    go_wp2_with fail
    refine (toint_at L_k R_n).mono ?_
    rintro e' W7 ⟨rfl, hC⟩
    have hB7 := hB6.trans (hC.mono hz6)
    have hz7 := hB7.size
    clear hC hB6 hz6
    go_wp2_with fail
    refine (row_any (l := [1026206379, 3204448256, 1065353216]) (c := 3132492641) (B := W7.heap.size + 1) L_z (Lib.hid rfl) (by decide) (by decide) (by decide) (by simp) (wr_new W7 [3132492641, 1026206379, 3204448256, 1065353216]) (Lib.hid (fun d hd => by simp at hd; omega))).mono ?_
    rintro e' W8 ⟨rfl, hC⟩
    rw [R_y.out]
    have hB8 := (hB7.alloc hz7 _).trans (hC.mono (by simp; omega))
    have hz8 := hB8.size
    clear hC hB7 hz7
    go_wp2_with fail
    refine (held_at L_y (Lib.hid (by decide)) (Lib.hid (by decide)) R_h2).mono ?_
    rintro e' w' ⟨rfl, hw⟩
    subst w'
    go_wp2
    go_ret
    exact ⟨by rw [HE.out]; try rfl, hB8⟩
  · have hC : bits .and .i64 (Q : Int) 1 = 0 := by rw [h]; kernel_rfl
    have hD : bits .and .i64 (Q : Int) 2 = 2 := by rw [h]; kernel_rfl
    obtain ⟨s1, e_s1⟩ : ∃ v, mulP 0 r z = v := ⟨_, rfl⟩
    have L_s1 : Hid (s1 < 4294967296) := Lib.hid (by rw [← e_s1]; exact (okR.mul 0 r z).1)
    have R_s1 := Lib.hid e_s1
    obtain ⟨s2, e_s2⟩ : ∃ v, rowP z [3109031169, 1007192201, 3190467243] = v := ⟨_, rfl⟩
    have L_s2 : Hid (s2 < 4294967296) := Lib.hid (by rw [← e_s2]; exact lt_row (by intro d hd; simp at hd; omega))
    have R_s2 := Lib.hid e_s2
    obtain ⟨y, e_y⟩ : ∃ v, fmaP 0 s1 s2 r = v := ⟨_, rfl⟩
    have L_y : Hid (y < 4294967296) := Lib.hid (by rw [← e_y]; exact lt_fma L_r.out)
    have R_y := Lib.hid e_y
    obtain ⟨vv, e_vv⟩ : ∃ v, negP y = v := ⟨_, rfl⟩
    have L_vv : Hid (vv < 4294967296) := Lib.hid (by rw [← e_vv]; exact neg_lt L_y.out)
    have R_vv := Lib.hid e_vv
    obtain ⟨h2, e_h2⟩ : ∃ v, heldF vv 3212836864 1065353216 = v := ⟨_, rfl⟩
    have L_h2 : Hid (h2 < 4294967296) := Lib.hid (by rw [← e_h2]; exact lt_held L_vv.out (Lib.hid (by decide)).out (Lib.hid (by decide)).out)
    have R_h2 := Lib.hid e_h2
    have HE : Hid (circP x 1 = h2) := Lib.hid (by
      rw [hM, h, circY_2, hSv]; unfold cirA
      rw [e_s1, e_s2, e_y, e_vv, e_h2])
    clear h hM hSv hCv e_b e_k e_r1 e_r2 e_r e_z e_n e_s1 e_s2 e_y e_vv e_h2
    go_enter Try.func24, Try.ntmps24
    have hB0 := Below.refl w.heap.size w
    have hz0 := hB0.size
    go_wp2_with fail
    refine (nan_at L_x C1).mono ?_
    rintro e' w' ⟨rfl, hw⟩
    subst w'
    go_wp2_with fail
    refine (inf_at L_x C2).mono ?_
    rintro e' w' ⟨rfl, hw⟩
    subst w'
    go_wp2_with fail
    refine (mul0_at L_x (Lib.hid (by decide)) R_b).mono ?_
    rintro e' W1 ⟨rfl, hC⟩
    have hB1 := hB0.trans (hC.mono hz0)
    have hz1 := hB1.size
    clear hC hB0 hz0
    go_wp2_with fail
    refine (even_at L_b R_k).mono ?_
    rintro e' W2 ⟨rfl, hC⟩
    have hB2 := hB1.trans (hC.mono hz1)
    have hz2 := hB2.size
    clear hC hB1 hz1
    go_wp2_with fail
    refine (fma0_at L_k (Lib.hid (by decide)) L_x R_r1).mono ?_
    rintro e' W3 ⟨rfl, hC⟩
    have hB3 := hB2.trans (hC.mono hz2)
    have hz3 := hB3.size
    clear hC hB2 hz2
    go_wp2_with fail
    refine (fma0_at L_k (Lib.hid (by decide)) L_r1 R_r2).mono ?_
    rintro e' W4 ⟨rfl, hC⟩
    have hB4 := hB3.trans (hC.mono hz3)
    have hz4 := hB4.size
    clear hC hB3 hz3
    go_wp2_with fail
    refine (fma0_at L_k (Lib.hid (by decide)) L_r2 R_r).mono ?_
    rintro e' W5 ⟨rfl, hC⟩
    have hB5 := hB4.trans (hC.mono hz4)
    have hz5 := hB5.size
    clear hC hB4 hz4
    go_wp2_with fail
    refine (mul0_at L_r L_r R_z).mono ?_
    rintro e' W6 ⟨rfl, hC⟩
    have hB6 := hB5.trans (hC.mono hz5)
    have hz6 := hB6.size
    clear hC hB5 hz5
    go_wp2_with fail
    refine (toint_at L_k R_n).mono ?_
    rintro e' W7 ⟨rfl, hC⟩
    have hB7 := hB6.trans (hC.mono hz6)
    have hz7 := hB7.size
    clear hC hB6 hz6
    go_wp2_with fail
    refine (mul0_at L_r L_z R_s1).mono ?_
    rintro e' W8 ⟨rfl, hC⟩
    have hB8 := hB7.trans (hC.mono hz7)
    have hz8 := hB8.size
    clear hC hB7 hz7
    go_wp2_with fail
    refine (row_any (l := [1007192201, 3190467243]) (c := 3109031169) (B := W8.heap.size + 1) L_z (Lib.hid rfl) (by decide) (by decide) (by decide) (by simp) (wr_new W8 [3109031169, 1007192201, 3190467243]) (Lib.hid (fun d hd => by simp at hd; omega))).mono ?_
    rintro e' W9 ⟨rfl, hC⟩
    rw [R_s2.out]
    have hB9 := (hB8.alloc hz8 _).trans (hC.mono (by simp; omega))
    have hz9 := hB9.size
    clear hC hB8 hz8
    go_wp2_with fail
    refine (fma0_at L_s1 L_s2 L_r R_y).mono ?_
    rintro e' W10 ⟨rfl, hC⟩
    have hB10 := hB9.trans (hC.mono hz9)
    have hz10 := hB10.size
    clear hC hB9 hz9
    go_wp2_with fail
    refine (neg_at L_y R_vv).mono ?_
    rintro e' w' ⟨rfl, hw⟩
    subst w'
    go_wp2_with fail
    refine (held_at L_vv (Lib.hid (by decide)) (Lib.hid (by decide)) R_h2).mono ?_
    rintro e' w' ⟨rfl, hw⟩
    subst w'
    go_wp2
    go_ret
    exact ⟨by rw [HE.out]; try rfl, hB10⟩
  · have hC : bits .and .i64 (Q : Int) 1 = 1 := by rw [h]; kernel_rfl
    have hD : bits .and .i64 (Q : Int) 2 = 2 := by rw [h]; kernel_rfl
    obtain ⟨y, e_y⟩ : ∃ v, rowP z [3132492641, 1026206379, 3204448256, 1065353216] = v := ⟨_, rfl⟩
    have L_y : Hid (y < 4294967296) := Lib.hid (by rw [← e_y]; exact lt_row (by intro d hd; simp at hd; omega))
    have R_y := Lib.hid e_y
    obtain ⟨vv, e_vv⟩ : ∃ v, negP y = v := ⟨_, rfl⟩
    have L_vv : Hid (vv < 4294967296) := Lib.hid (by rw [← e_vv]; exact neg_lt L_y.out)
    have R_vv := Lib.hid e_vv
    obtain ⟨h2, e_h2⟩ : ∃ v, heldF vv 3212836864 1065353216 = v := ⟨_, rfl⟩
    have L_h2 : Hid (h2 < 4294967296) := Lib.hid (by rw [← e_h2]; exact lt_held L_vv.out (Lib.hid (by decide)).out (Lib.hid (by decide)).out)
    have R_h2 := Lib.hid e_h2
    have HE : Hid (circP x 1 = h2) := Lib.hid (by
      rw [hM, h, circY_3, hCv]
      rw [e_y, e_vv, e_h2])
    clear h hM hSv hCv e_b e_k e_r1 e_r2 e_r e_z e_n e_y e_vv e_h2
    go_enter Try.func24, Try.ntmps24
    have hB0 := Below.refl w.heap.size w
    have hz0 := hB0.size
    go_wp2_with fail
    refine (nan_at L_x C1).mono ?_
    rintro e' w' ⟨rfl, hw⟩
    subst w'
    go_wp2_with fail
    refine (inf_at L_x C2).mono ?_
    rintro e' w' ⟨rfl, hw⟩
    subst w'
    go_wp2_with fail
    refine (mul0_at L_x (Lib.hid (by decide)) R_b).mono ?_
    rintro e' W1 ⟨rfl, hC⟩
    have hB1 := hB0.trans (hC.mono hz0)
    have hz1 := hB1.size
    clear hC hB0 hz0
    go_wp2_with fail
    refine (even_at L_b R_k).mono ?_
    rintro e' W2 ⟨rfl, hC⟩
    have hB2 := hB1.trans (hC.mono hz1)
    have hz2 := hB2.size
    clear hC hB1 hz1
    go_wp2_with fail
    refine (fma0_at L_k (Lib.hid (by decide)) L_x R_r1).mono ?_
    rintro e' W3 ⟨rfl, hC⟩
    have hB3 := hB2.trans (hC.mono hz2)
    have hz3 := hB3.size
    clear hC hB2 hz2
    go_wp2_with fail
    refine (fma0_at L_k (Lib.hid (by decide)) L_r1 R_r2).mono ?_
    rintro e' W4 ⟨rfl, hC⟩
    have hB4 := hB3.trans (hC.mono hz3)
    have hz4 := hB4.size
    clear hC hB3 hz3
    go_wp2_with fail
    refine (fma0_at L_k (Lib.hid (by decide)) L_r2 R_r).mono ?_
    rintro e' W5 ⟨rfl, hC⟩
    have hB5 := hB4.trans (hC.mono hz4)
    have hz5 := hB5.size
    clear hC hB4 hz4
    go_wp2_with fail
    refine (mul0_at L_r L_r R_z).mono ?_
    rintro e' W6 ⟨rfl, hC⟩
    have hB6 := hB5.trans (hC.mono hz5)
    have hz6 := hB6.size
    clear hC hB5 hz5
    go_wp2_with fail
    refine (toint_at L_k R_n).mono ?_
    rintro e' W7 ⟨rfl, hC⟩
    have hB7 := hB6.trans (hC.mono hz6)
    have hz7 := hB7.size
    clear hC hB6 hz6
    go_wp2_with fail
    refine (row_any (l := [1026206379, 3204448256, 1065353216]) (c := 3132492641) (B := W7.heap.size + 1) L_z (Lib.hid rfl) (by decide) (by decide) (by decide) (by simp) (wr_new W7 [3132492641, 1026206379, 3204448256, 1065353216]) (Lib.hid (fun d hd => by simp at hd; omega))).mono ?_
    rintro e' W8 ⟨rfl, hC⟩
    rw [R_y.out]
    have hB8 := (hB7.alloc hz7 _).trans (hC.mono (by simp; omega))
    have hz8 := hB8.size
    clear hC hB7 hz7
    go_wp2_with fail
    refine (neg_at L_y R_vv).mono ?_
    rintro e' w' ⟨rfl, hw⟩
    subst w'
    go_wp2_with fail
    refine (held_at L_vv (Lib.hid (by decide)) (Lib.hid (by decide)) R_h2).mono ?_
    rintro e' w' ⟨rfl, hw⟩
    subst w'
    go_wp2
    go_ret
    exact ⟨by rw [HE.out]; try rfl, hB8⟩
theorem sin_any (x : Nat) (w : World) (L_x : Hid (x < 4294967296)) : Calls Try.prog 7 #[.int .u32 (x : Int)] w (BR w (circP x 0)) := by
  go_enter Try.func7, Try.ntmps7
  go_wp2_with fail
  refine (circ0_any x _ L_x).mono ?_
  rintro e w' ⟨rfl, hb⟩
  go_wp2
  go_ret
  exact ⟨rfl, hb⟩
theorem sin_at {x r : Nat} {w : World} (L_x : Hid (x < 4294967296)) (hr : Hid (circP x 0 = r)) : Calls Try.prog 7 #[.int .u32 (x : Int)] w (BR w r) := by
  have := sin_any x w L_x
  rw [hr.out] at this
  exact this
theorem cos_any (x : Nat) (w : World) (L_x : Hid (x < 4294967296)) : Calls Try.prog 9 #[.int .u32 (x : Int)] w (BR w (circP x 1)) := by
  go_enter Try.func9, Try.ntmps9
  go_wp2_with fail
  refine (circ1_any x _ L_x).mono ?_
  rintro e w' ⟨rfl, hb⟩
  go_wp2
  go_ret
  exact ⟨rfl, hb⟩
theorem cos_at {x r : Nat} {w : World} (L_x : Hid (x < 4294967296)) (hr : Hid (circP x 1 = r)) : Calls Try.prog 9 #[.int .u32 (x : Int)] w (BR w r) := by
  have := cos_any x w L_x
  rw [hr.out] at this
  exact this
end Go.Proofs.Ytegeadkilolngaa
