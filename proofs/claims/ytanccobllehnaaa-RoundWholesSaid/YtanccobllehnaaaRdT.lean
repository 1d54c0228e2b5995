/- The contracts of round.SqrtBy and round.Sqrt. -/
import Derived.Test.YtanccobllehnaaaRdQ
namespace Go.Proofs.Ytanccobllehnaaa
open Go.RowKit

theorem i64_and1 (n : Int) : bits .and .i64 n 1 = n % 2 := by
  have h127 : (BitVec.ofInt 64 1).toNat = 2 ^ 1 - 1 := by decide
  have key : (BitVec.ofInt 64 n &&& BitVec.ofInt 64 1).toNat = (n % ((2 ^ 64 : Nat) : Int)).toNat % 2 ^ 1 := by
    rw [BitVec.toNat_and, BitVec.toNat_ofInt, h127, Nat.and_two_pow_sub_one_eq_mod]
  show IntKind.i64.wrap ((BitVec.ofInt 64 n &&& BitVec.ofInt 64 1).toNat : Nat) = n % 2
  rw [key, IntKind.wrap_i64]
  omega
def sqK (s : Nat) (e : Int) : Nat := if (e - ((62 - blen s : Nat) : Int)) % 2 = 1 then 62 - blen s + 1 else 62 - blen s
def sqH (s : Nat) (e : Int) : Int := (e - (sqK s e : Int)) / 2
def sqM (way : Int) (s : Nat) (e : Int) : Nat := roundP way false (sqH s e) (rt (s * two (sqK s e))) (decide (rt (s * two (sqK s e)) * rt (s * two (sqK s e)) ≠ s * two (sqK s e)))
/-- a root, as its code has it -/
def sqrtP (way : Int) (a : Nat) : Nat :=
  if nanP a = true then 2143289344 else if absP a = 0 then a else if 2147483648 ≤ a then 2143289344 else if infP a = true then a else sqM way (oS a) (oE a)
theorem sq_even (s : Nat) (e : Int) : e - (sqK s e : Int) = 2 * sqH s e := by
  have : (e - (sqK s e : Int)) % 2 = 0 := by
    unfold sqK
    split <;> omega
  unfold sqH
  omega
theorem sq_n {s : Nat} {e : Int} (h0 : 0 < s) (h : s < 16777216) : s * two (sqK s e) < 9223372036854775808 ∧ 2305843009213693952 ≤ s * two (sqK s e) ∧ 38 ≤ sqK s e ∧ sqK s e ≤ 62 := by
  have h1 := blen_le h0
  have h2 := blen_lt s
  have h3 := blen_pos h0
  have h4 : blen s ≤ 24 := by
    by_cases hh : blen s ≤ 24
    · exact hh
    · have := two_le (show 24 ≤ blen s - 1 by omega)
      rw [two_24] at this
      omega
  have hk : sqK s e ≤ 62 - blen s + 1 ∧ 62 - blen s ≤ sqK s e := by unfold sqK; split <;> omega
  obtain ⟨k, hkk⟩ : ∃ k, sqK s e = k := ⟨_, rfl⟩
  rw [hkk] at hk ⊢
  have h5 : s * two k < two (blen s) * two k := Nat.mul_lt_mul_of_pos_right h2 (two_pos _)
  have h6 : two (blen s - 1) * two k ≤ s * two k := Nat.mul_le_mul_right _ h1
  rw [← two_add] at h5 h6
  have h7 := two_le (show blen s + k ≤ 63 by omega)
  have h8 := two_le (show 61 ≤ blen s - 1 + k by omega)
  have e1 : two 63 = 9223372036854775808 := rfl
  have e2 : two 61 = 2305843009213693952 := rfl
  omega

set_option maxRecDepth 100000 in
set_option maxHeartbeats 1600000 in
theorem sqrt_any (way : Int) (a : Nat) (w : World) (h : Hid (a < 4294967296)) :
    Calls Try.prog 16 #[.int .i64 way, .int .u32 (a : Int)] w (BR w (sqrtP way a)) := by
  have habs : ∀ w, Calls Try.prog 57 #[.int .u32 (a : Int)] w fun e w' => e = .returned (.int .u32 (absP a : Int)) ∧ w' = w := fun w => abs_any a w h.out
  have HAB := Lib.hid habs
  clear habs
  have hsgn : ((a : Int) / 2147483648 == 1) = decide (2147483648 ≤ a) := by
    have := h.out
    by_cases hh : 2147483648 ≤ a
    · rw [decide_eq_true hh, beq_iff_eq]; omega
    · rw [decide_eq_false hh, beq_eq_false_iff_ne]; omega
  cases hna : nanP a
  case true =>
    have NA := Lib.hid hna
    have HE : Hid (sqrtP way a = 2143289344) := Lib.hid (by unfold sqrtP; rw [if_pos hna])
    clear hna hsgn
    go_enter Try.func16, Try.ntmps16
    go_wp2_with fail
    refine (nan_at h NA).mono ?_
    rintro e w' ⟨rfl, rfl⟩
    go_wp2
    go_ret
    exact ⟨by rw [HE.out]; try rfl, Below.refl _ _⟩
  have NA := Lib.hid hna
  obtain ⟨x, hx⟩ : ∃ x, absP a = x := ⟨_, rfl⟩
  have HX := Lib.hid hx
  by_cases hx0 : x = 0
  case pos =>
    have HE : Hid (sqrtP way a = a) := Lib.hid (by unfold sqrtP; rw [if_neg (by rw [hna]; decide), if_pos (hx.trans hx0)])
    have bx : ((x : Int) == 0) = true := int_eq (y := 0) hx0
    clear hna hsgn hx hx0
    go_enter Try.func16, Try.ntmps16
    go_wp2_with fail
    refine (nan_at h NA).mono ?_
    rintro e w' ⟨rfl, rfl⟩
    go_wp2_with fail
    refine (HAB.out _).mono ?_
    rintro e w' ⟨rfl, rfl⟩
    rw [HX.out]
    go_wp2
    go_ret
    exact ⟨by rw [HE.out]; try rfl, Below.refl _ _⟩
  have bx : ((x : Int) == 0) = false := int_ne (y := 0) hx0
  have hno : ¬ absP a = 0 := by rw [hx]; exact hx0
  by_cases hs : 2147483648 ≤ a
  case pos =>
    have HE : Hid (sqrtP way a = 2143289344) := Lib.hid (by unfold sqrtP; rw [if_neg (by rw [hna]; decide), if_neg hno, if_pos hs])
    rw [decide_eq_true hs] at hsgn
    clear hna hx hx0 hno hs
    go_enter Try.func16, Try.ntmps16
    go_wp2_with fail
    refine (nan_at h NA).mono ?_
    rintro e w' ⟨rfl, rfl⟩
    go_wp2_with fail
    refine (HAB.out _).mono ?_
    rintro e w' ⟨rfl, rfl⟩
    rw [HX.out]
    go_wp2
    go_ret
    exact ⟨by rw [HE.out]; try rfl, Below.refl _ _⟩
  rw [decide_eq_false hs] at hsgn
  cases hia : infP a
  case true =>
    have IA := Lib.hid hia
    have HE : Hid (sqrtP way a = a) := Lib.hid (by unfold sqrtP; rw [if_neg (by rw [hna]; decide), if_neg hno, if_neg hs, if_pos hia])
    clear hna hx hx0 hno hs hia
    go_enter Try.func16, Try.ntmps16
    go_wp2_with fail
    refine (nan_at h NA).mono ?_
    rintro e w' ⟨rfl, rfl⟩
    go_wp2_with fail
    refine (HAB.out _).mono ?_
    rintro e w' ⟨rfl, rfl⟩
    rw [HX.out]
    go_wp2_with fail
    refine (inf_at h IA).mono ?_
    rintro e w' ⟨rfl, rfl⟩
    go_wp2
    go_ret
    exact ⟨by rw [HE.out]; try rfl, Below.refl _ _⟩
  have IA := Lib.hid hia
  have HE0 : Hid (sqrtP way a = sqM way (oS a) (oE a)) := Lib.hid (by unfold sqrtP; rw [if_neg (by rw [hna]; decide), if_neg hno, if_neg hs, if_neg (by rw [hia]; decide)])
  have hs0 : 0 < oS a := by
    rcases Nat.eq_zero_or_pos (oS a) with h0 | h0
    · exact absurd (o_nil.1 h0) hno
    · exact h0
  obtain ⟨ob1, ob2, ob3⟩ := o_bounds a
  obtain ⟨s, hss⟩ : ∃ s, oS a = s := ⟨_, rfl⟩
  obtain ⟨e, hee⟩ : ∃ e, oE a = e := ⟨_, rfl⟩
  rw [hss, hee] at HE0
  rw [hss] at hs0 ob1
  rw [hee] at ob2 ob3
  have HSS := Lib.hid hss
  have HEE := Lib.hid hee
  clear hna hx hx0 hno hs hia hss hee
  obtain ⟨hn1, hn2, hk1, hk2⟩ := sq_n (e := e) hs0 ob1
  have hev := sq_even s e
  have h24 : blen s ≤ 24 := (full_sig hs0 ob1).2.2
  obtain ⟨L, hL⟩ : ∃ L, blen s = L := ⟨_, rfl⟩
  have HKD : Hid (sqK s e = if (e - ((62 - L : Nat) : Int)) % 2 = 1 then 62 - L + 1 else 62 - L) := Lib.hid (by unfold sqK; rw [hL])
  have HL := Lib.hid hL
  rw [hL] at h24
  clear hL
  unfold sqM at HE0
  obtain ⟨k, hk⟩ : ∃ k, sqK s e = k := ⟨_, rfl⟩
  obtain ⟨hh, hhh⟩ : ∃ k, sqH s e = k := ⟨_, rfl⟩
  rw [hk, hhh] at HE0
  rw [hk] at hn1 hn2 hk1 hk2 hev HKD
  rw [hhh] at hev
  clear hk hhh
  obtain ⟨n, hn⟩ : ∃ n, s * two k = n := ⟨_, rfl⟩
  rw [hn] at HE0 hn1 hn2
  obtain ⟨r1, r2, r3⟩ := rt_is (n := n) (by omega)
  obtain ⟨r, hr⟩ : ∃ r, rt n = r := ⟨_, rfl⟩
  rw [hr] at HE0 r1 r2 r3
  obtain ⟨mb, hmb⟩ : ∃ m, decide (r * r ≠ n) = m := ⟨_, rfl⟩
  rw [hmb] at HE0
  have hmul : ((r : Int) * (r : Int)) = ((r * r : Nat) : Int) := by simp
  have hne : (((r * r : Nat) : Int) != (n : Int)) = mb := by
    rw [← hmb]
    by_cases h0 : r * r = n
    · rw [decide_eq_false (by simpa using h0), h0]; simp
    · rw [decide_eq_true h0, bne_iff_ne]; omega
  obtain ⟨rr, hrr⟩ : ∃ x, r * r = x := ⟨_, rfl⟩
  rw [hrr] at r1 hmul hne
  have hsh : IntKind.u64.wrap ((s : Int) * 2 ^ k) = (n : Int) := by rw [two_cast, ← Int.natCast_mul, hn, wrap64_nat (by omega)]
  have HR := Lib.hid hr
  have HN1 : Hid (n < 9223372036854775808) := Lib.hid hn1
  clear hn hr hmb hrr r2
  have hm64 : min k 64 = k := by omega
  have hq : (e - (k : Int)).tdiv 2 = hh := by rw [hev]; exact Int.mul_tdiv_cancel_left hh (by decide)
  have hcast : ((62 : Int) - (L : Int)) = ((62 - L : Nat) : Int) := by omega
  by_cases hpar : (e - ((62 - L : Nat) : Int)) % 2 = 1
  · have hkk : k = 62 - L + 1 := by rw [HKD.out, if_pos hpar]
    have hkc : ((62 - L : Nat) : Int) + 1 = (k : Int) := by omega
    have hand : (bits .and .i64 (e - ((62 - L : Nat) : Int)) 1 == 1) = true := by rw [i64_and1, beq_iff_eq]; exact hpar
    have hb1 : -1000 ≤ e - ((62 - L : Nat) : Int) ∧ e - ((62 - L : Nat) : Int) ≤ 1000 := by omega
    have hb2 : -1000 ≤ hh ∧ hh ≤ 1000 := by omega
    have hb3 : -1000 ≤ e - (k : Int) ∧ e - (k : Int) ≤ 1000 := by omega
    obtain ⟨K0, hK0⟩ : ∃ x, 62 - L = x := ⟨_, rfl⟩
    rw [hK0] at hkc hand hb1 hcast
    clear HKD hpar hev hkk hK0 hn2
    go_enter Try.func16, Try.ntmps16
    go_wp2_with fail
    refine (nan_at h NA).mono ?_
    rintro e' w' ⟨rfl, rfl⟩
    go_wp2_with fail
    refine (HAB.out _).mono ?_
    rintro e' w' ⟨rfl, rfl⟩
    rw [HX.out]
    go_wp2_with fail
    refine (inf_at h IA).mono ?_
    rintro e' w' ⟨rfl, rfl⟩
    go_wp2_with fail
    refine (ropen_any a _ h).mono ?_
    rintro e' W1 ⟨rfl, hB1⟩
    rw [HSS.out, HEE.out]
    have hz1 := hB1.size
    go_wp2_with fail
    refine (len_any s _ (by omega)).mono ?_
    rintro e' w' ⟨rfl, rfl⟩
    rw [HL.out]
    go_wp2_with fail
    refine (root_any n _ HN1).mono ?_
    rintro e' w' ⟨rfl, rfl⟩
    rw [HR.out]
    go_wp2_with fail
    refine (round_at (s := r) rfl (by omega) (by omega) (Lib.hid rfl)).mono ?_
    rintro e' w' ⟨rfl, rfl⟩
    go_wp2
    go_ret
    exact ⟨by rw [HE0.out]; try rfl, hB1.alloc hz1 _⟩
  · have hkk : k = 62 - L := by rw [HKD.out, if_neg hpar]
    have hkc : ((62 - L : Nat) : Int) = (k : Int) := by omega
    have hand : (bits .and .i64 (e - (k : Int)) 1 == 1) = false := by rw [i64_and1, beq_eq_false_iff_ne, ← hkc]; exact hpar
    have hb2 : -1000 ≤ hh ∧ hh ≤ 1000 := by omega
    have hb3 : -1000 ≤ e - (k : Int) ∧ e - (k : Int) ≤ 1000 := by omega
    rw [hkc] at hcast
    clear HKD hpar hev hkk hn2 hkc
    go_enter Try.func16, Try.ntmps16
    go_wp2_with fail
    refine (nan_at h NA).mono ?_
    rintro e' w' ⟨rfl, rfl⟩
    go_wp2_with fail
    refine (HAB.out _).mono ?_
    rintro e' w' ⟨rfl, rfl⟩
    rw [HX.out]
    go_wp2_with fail
    refine (inf_at h IA).mono ?_
    rintro e' w' ⟨rfl, rfl⟩
    go_wp2_with fail
    refine (ropen_any a _ h).mono ?_
    rintro e' W1 ⟨rfl, hB1⟩
    rw [HSS.out, HEE.out]
    have hz1 := hB1.size
    go_wp2_with fail
    refine (len_any s _ (by omega)).mono ?_
    rintro e' w' ⟨rfl, rfl⟩
    rw [HL.out]
    go_wp2_with fail
    refine (root_any n _ HN1).mono ?_
    rintro e' w' ⟨rfl, rfl⟩
    rw [HR.out]
    go_wp2_with fail
    refine (round_at (s := r) rfl (by omega) (by omega) (Lib.hid rfl)).mono ?_
    rintro e' w' ⟨rfl, rfl⟩
    go_wp2
    go_ret
    exact ⟨by rw [HE0.out]; try rfl, hB1.alloc hz1 _⟩
theorem sqrt0_any (a : Nat) (w : World) (h : Hid (a < 4294967296)) :
    Calls Try.prog 18 #[.int .u32 (a : Int)] w (BR w (sqrtP 0 a)) := by
  go_enter Try.func18, Try.ntmps18
  go_wp2_with fail
  refine (sqrt_any 0 a _ h).mono ?_
  rintro e w' ⟨rfl, hb⟩
  go_wp2
  go_ret
  exact ⟨rfl, hb⟩
/-- the root is the one that the document searches for -/
theorem sqrt_law {way : Int} {a m : Nat} (h0 : absP a ≠ 0) (h1 : absP a < 2139095040) (hm : IsRt (two 149 * amt (absP a)) m) : sqM way (oS a) (oE a) = rootM way (two 149 * amt (absP a)) m := by
  have hs0 : 0 < oS a := by
    rcases Nat.eq_zero_or_pos (oS a) with h | h
    · exact absurd (o_nil.1 h) h0
    · exact h
  obtain ⟨ob1, ob2, ob3⟩ := o_bounds a
  have ob4 := o_fin h1
  have hamt := ofin_amt (a := a)
  obtain ⟨s, hss⟩ : ∃ s, oS a = s := ⟨_, rfl⟩
  obtain ⟨e, hee⟩ : ∃ e, oE a = e := ⟨_, rfl⟩
  rw [hss, hee] at hamt ⊢
  rw [hss] at hs0 ob1
  rw [hee] at ob2 ob4
  obtain ⟨hn1, hn2, hk1, hk2⟩ := sq_n (e := e) hs0 ob1
  have hev := sq_even s e
  unfold sqM
  obtain ⟨k, hk⟩ : ∃ k, sqK s e = k := ⟨_, rfl⟩
  obtain ⟨hh, hhh⟩ : ∃ k, sqH s e = k := ⟨_, rfl⟩
  rw [hk] at hn1 hn2 hk1 hk2 hev ⊢
  rw [hhh] at hev ⊢
  obtain ⟨r1, r2, r3⟩ := rt_is (n := s * two k) (by omega)
  obtain ⟨g, hg⟩ : ∃ g : Nat, hh = (g : Int) - 149 := ⟨(hh + 149).toNat, by omega⟩
  have hN : two 149 * amt (absP a) = s * two k * (two g * two g) := by
    rw [← hamt, Nat.mul_left_comm, Nat.mul_assoc, ← two_add, ← two_add, ← two_add]
    congr 2
    omega
  rw [hN] at hm ⊢
  rw [hg]
  refine root_law r1 r2 ?_ r3 (by omega) hm
  rcases Nat.lt_or_ge (rt (s * two k)) 33554432 with hlt | hge
  · have := sq_le (show rt (s * two k) + 1 ≤ 33554432 from hlt)
    omega
  · exact hge
end Go.Proofs.Ytanccobllehnaaa
