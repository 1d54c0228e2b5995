/- The contracts of round.FromIntBy, FromInt, ToInt, Scale. -/
import Derived.Test.YtanccobllehnaaaRdT
import Derived.Test.YtanccobllehnaaaRdV
namespace Go.Proofs.Ytanccobllehnaaa
open Go.RowKit

/-- a whole number, rounded -/
def fromP (way : Int) (n : Int) : Nat := roundP way (decide (n < 0)) 0 n.natAbs false
theorem from_any (way n : Int) (w : World) (h : -9223372036854775808 ≤ n ∧ n ≤ 9223372036854775807) :
    Calls Try.prog 20 #[.int .i64 way, .int .i64 n] w fun e w' => e = .returned (.int .u32 (fromP way n : Int)) ∧ w' = w := by
  by_cases hn : n < 0
  · obtain ⟨m, hm⟩ : ∃ m : Nat, n = -(m : Int) := ⟨n.natAbs, by omega⟩
    obtain ⟨c, hc⟩ : ∃ c : Nat, 18446744073709551616 - m = c := ⟨_, rfl⟩
    have hw1 : IntKind.u64.wrap (-(m : Int)) = (c : Int) := by rw [IntKind.wrap_u64]; omega
    have hw2 : IntKind.u64.wrap (-(c : Int)) = (m : Int) := by rw [IntKind.wrap_u64]; omega
    have HE : Hid (fromP way n = roundP way true 0 m false) := Lib.hid (by unfold fromP; rw [decide_eq_true hn]; congr 1; omega)
    have hm64 : m < 18446744073709551616 := by omega
    have HM := Lib.hid hm64
    subst hm
    clear h hc hm64
    go_enter Try.func20, Try.ntmps20
    go_wp2_with fail
    refine (round_at (s := m) rfl HM.out (by omega) (Lib.hid rfl)).mono ?_
    rintro e w' ⟨rfl, rfl⟩
    go_wp2
    go_ret
    exact ⟨by rw [HE.out]; try rfl, rfl⟩
  · obtain ⟨m, hm⟩ : ∃ m : Nat, n = (m : Int) := ⟨n.natAbs, by omega⟩
    have HE : Hid (fromP way n = roundP way false 0 m false) := Lib.hid (by unfold fromP; rw [decide_eq_false hn]; congr 1; omega)
    have hm64 : m < 18446744073709551616 := by omega
    have HM := Lib.hid hm64
    have hw1 : IntKind.u64.wrap (m : Int) = (m : Int) := wrap64_nat hm64
    subst hm
    clear h hm64
    go_enter Try.func20, Try.ntmps20
    go_wp2_with fail
    refine (round_at (s := m) rfl HM.out (by omega) (Lib.hid rfl)).mono ?_
    rintro e w' ⟨rfl, rfl⟩
    go_wp2
    go_ret
    exact ⟨by rw [HE.out]; try rfl, rfl⟩
theorem from0_any (n : Int) (w : World) (h : -9223372036854775808 ≤ n ∧ n ≤ 9223372036854775807) :
    Calls Try.prog 22 #[.int .i64 n] w fun e w' => e = .returned (.int .u32 (fromP 0 n : Int)) ∧ w' = w := by
  go_enter Try.func22, Try.ntmps22
  go_wp2_with fail
  refine (from_any 0 n _ h).mono ?_
  rintro e w' ⟨rfl, rfl⟩
  go_wp2
  go_ret
  exact ⟨rfl, rfl⟩
/-- the amount without its broken part, of one that is below 2^63 -/
def cutA (a : Nat) : Nat := if 0 ≤ oE a then oS a * two (oE a).toNat else oS a / two (-oE a).toNat
def toIntP (a : Nat) : Int :=
  if nanP a = true then 0 else if 1593835520 ≤ absP a then (if oN a = true then -9223372036854775808 else 9223372036854775807)
  else if oN a = true then -(cutA a : Int) else (cutA a : Int)
theorem cutA_lt {a : Nat} (h : absP a < 1593835520) : cutA a < 9223372036854775808 := by
  obtain ⟨ob1, ob2, ob3⟩ := o_bounds a
  have he : oE a ≤ 39 := by
    unfold oE absP at *
    split <;> omega
  unfold cutA
  split
  · have h1 := two_le (show (oE a).toNat ≤ 39 by omega)
    have h2 : oS a * two (oE a).toNat ≤ 16777215 * two 39 := Nat.mul_le_mul (by omega) h1
    have h3 : two 39 = 549755813888 := rfl
    omega
  · have := Nat.div_le_self (oS a) (two (-oE a).toNat)
    omega
set_option maxRecDepth 100000 in
set_option maxHeartbeats 1600000 in
theorem toint_any (a : Nat) (w : World) (h : Hid (a < 4294967296)) :
    Calls Try.prog 24 #[.int .u32 (a : Int)] w fun e w' => e = .returned (.int .i64 (toIntP a)) ∧ Below w.heap.size w w' := by
  have HAB : Hid (∀ w, Calls Try.prog 57 #[.int .u32 (a : Int)] w fun e w' => e = .returned (.int .u32 (absP a : Int)) ∧ w' = w) := Lib.hid fun w => abs_any a w h.out
  cases hna : nanP a
  case true =>
    have NA := Lib.hid hna
    have HE : Hid (toIntP a = 0) := Lib.hid (by unfold toIntP; rw [if_pos hna])
    clear hna
    go_enter Try.func24, Try.ntmps24
    go_wp2_with fail
    refine (nan_at h NA).mono ?_
    rintro e w' ⟨rfl, rfl⟩
    go_wp2
    go_ret
    exact ⟨by rw [HE.out]; try rfl, Below.refl _ _⟩
  have NA := Lib.hid hna
  have hno : ¬ nanP a = true := by rw [hna]; decide
  obtain ⟨x, hx⟩ : ∃ x, absP a = x := ⟨_, rfl⟩
  obtain ⟨nb, hnb⟩ : ∃ x, oN a = x := ⟨_, rfl⟩
  have HX := Lib.hid hx
  have HNB := Lib.hid hnb
  by_cases hbig : 1593835520 ≤ x
  case pos =>
    have HE : Hid (toIntP a = if nb = true then -9223372036854775808 else 9223372036854775807) := Lib.hid (by unfold toIntP; rw [if_neg hno, if_pos (by rw [hx]; exact hbig), hnb])
    have hbig' : (1593835520 : Int) ≤ (x : Int) := by omega
    clear hna hno hx hnb hbig
    cases nb
    all_goals
      go_enter Try.func24, Try.ntmps24
      go_wp2_with fail
      refine (nan_at h NA).mono ?_
      rintro e w' ⟨rfl, rfl⟩
      go_wp2_with fail
      refine (ropen_any a _ h).mono ?_
      rintro e w1 ⟨rfl, hB1⟩
      rw [HNB.out]
      go_wp2_with fail
      refine (HAB.out _).mono ?_
      rintro e w' ⟨rfl, rfl⟩
      rw [HX.out]
      go_wp2
      go_ret
      exact ⟨by rw [HE.out]; try rfl, hB1.alloc hB1.size _⟩
  have hbig' : decide ((1593835520 : Int) ≤ (x : Int)) = false := decide_eq_false (by omega)
  have hcl0 := cutA_lt (a := a) (by rw [hx]; omega)
  obtain ⟨ob1, ob2, ob3⟩ := o_bounds a
  obtain ⟨N, hN⟩ : ∃ n, cutA a = n := ⟨_, rfl⟩
  have HE : Hid (toIntP a = if nb = true then -(N : Int) else (N : Int)) := Lib.hid (by unfold toIntP; rw [if_neg hno, if_neg (by rw [hx]; exact hbig), hnb, hN])
  have hcl : N < 9223372036854775808 := by rw [← hN]; exact hcl0
  clear hcl0
  unfold cutA at hN
  obtain ⟨s, hss⟩ : ∃ s, oS a = s := ⟨_, rfl⟩
  obtain ⟨e, hee⟩ : ∃ e, oE a = e := ⟨_, rfl⟩
  rw [hss] at hN ob1
  rw [hee] at hN ob2 ob3
  have HSS := Lib.hid hss
  have HEE0 := Lib.hid hee
  clear hna hno hx hnb hbig hss hee
  have hsw : wrap64 (s : Int) = (s : Int) := IntWalk.wrap64_in _ (by omega)
  have hnw : wrap64 (-(N : Int)) = -(N : Int) := IntWalk.wrap64_in _ (by omega)
  have hsw2 : IntKind.i64.wrap (s : Int) = (s : Int) := IntWalk.i64_in _ (by omega)
  have hnw2 : IntKind.i64.wrap (-(N : Int)) = -(N : Int) := IntWalk.i64_in _ (by omega)
  by_cases he : 0 ≤ e
  · obtain ⟨k, hk⟩ : ∃ k : Nat, e = (k : Int) := ⟨e.toNat, by omega⟩
    rw [if_pos he] at hN
    subst hk
    have hk39 : k ≤ 105 := by omega
    have hN' : s * two k = N := hN
    have hsh : IntKind.i64.wrap ((s : Int) * 2 ^ k) = (N : Int) := by rw [two_cast, ← Int.natCast_mul, hN']; exact IntWalk.i64_in _ (by omega)
    have hsh2 : IntKind.i64.wrap ((s : Int) * 2 ^ min k 64) = (N : Int) := by
      by_cases h64 : k ≤ 64
      · rw [Nat.min_eq_left h64]; exact hsh
      · have h1 := two_le (show 64 ≤ k by omega)
        rw [two_64] at h1
        rcases Nat.eq_zero_or_pos s with h0 | h0
        · subst h0; rw [Nat.zero_mul] at hN'; subst hN'; rw [show ((0 : Nat) : Int) = 0 from rfl, Int.zero_mul]; exact IntWalk.i64_in 0 (by omega)
        · have : 1 * two k ≤ s * two k := Nat.mul_le_mul_right _ h0
          omega
    have HEE := HEE0
    clear hN hN' hcl
    cases nb
    all_goals
      go_enter Try.func24, Try.ntmps24
      go_wp2_with fail
      refine (nan_at h NA).mono ?_
      rintro e' w' ⟨rfl, rfl⟩
      go_wp2_with fail
      refine (ropen_any a _ h).mono ?_
      rintro e' w1 ⟨rfl, hB1⟩
      rw [HNB.out, HSS.out, HEE.out]
      go_wp2_with fail
      refine (HAB.out _).mono ?_
      rintro e' w' ⟨rfl, rfl⟩
      rw [HX.out]
      go_wp2
      go_ret
      exact ⟨by rw [HE.out]; try rfl, hB1.alloc hB1.size _⟩
  · obtain ⟨d, hd⟩ : ∃ d : Nat, e = -(d : Int) := ⟨(-e).toNat, by omega⟩
    rw [if_neg he] at hN
    subst hd
    have hd1 : 1 ≤ d := by omega
    have hd2 : d ≤ 149 := by omega
    have hN' : s / two d = N := by rw [← hN]; congr 2; omega
    have hq : (s : Int) / 2 ^ d = (N : Int) := by rw [quo_cast, hN']
    have hq2 : (s : Int) / 2 ^ min d 64 = (N : Int) := by
      by_cases h64 : d ≤ 64
      · rw [Nat.min_eq_left h64]; exact hq
      · obtain ⟨e1, e2⟩ := mv_small (s := s) (d := 64) (Nat.le_refl _) (by omega)
        obtain ⟨f1, f2⟩ := mv_small (s := s) (d := d) (by omega) (by omega)
        rw [Nat.min_eq_right (by omega), quo_cast, e1, ← hN', f1]
    have HEE := HEE0
    clear hN hN' hcl
    cases nb
    all_goals
      go_enter Try.func24, Try.ntmps24
      go_wp2_with fail
      refine (nan_at h NA).mono ?_
      rintro e' w' ⟨rfl, rfl⟩
      go_wp2_with fail
      refine (ropen_any a _ h).mono ?_
      rintro e' w1 ⟨rfl, hB1⟩
      rw [HNB.out, HSS.out, HEE.out]
      go_wp2_with fail
      refine (HAB.out _).mono ?_
      rintro e' w' ⟨rfl, rfl⟩
      rw [HX.out]
      go_wp2
      go_ret
      exact ⟨by rw [HE.out]; try rfl, hB1.alloc hB1.size _⟩
/-- a times 2 to the k -/
def scaleP (a : Nat) (k : Int) : Nat :=
  if nanP a = true then 2143289344 else if infP a = true ∨ oS a = 0 then a
  else roundP 0 (oN a) (oE a + max (-1000) (min k 1000)) (oS a) false
set_option maxRecDepth 100000 in
set_option maxHeartbeats 1600000 in
theorem scale_any (a : Nat) (k : Int) (w : World) (h : Hid (a < 4294967296)) :
    Calls Try.prog 26 #[.int .u32 (a : Int), .int .i64 k] w (BR w (scaleP a k)) := by
  cases hna : nanP a
  case true =>
    have NA := Lib.hid hna
    have HE : Hid (scaleP a k = 2143289344) := Lib.hid (by unfold scaleP; rw [if_pos hna])
    clear hna
    go_enter Try.func26, Try.ntmps26
    go_wp2_with fail
    refine (nan_at h NA).mono ?_
    rintro e w' ⟨rfl, rfl⟩
    go_wp2
    go_ret
    exact ⟨by rw [HE.out]; try rfl, Below.refl _ _⟩
  have NA := Lib.hid hna
  have hno : ¬ nanP a = true := by rw [hna]; decide
  obtain ⟨ob1, ob2, ob3⟩ := o_bounds a
  obtain ⟨ia, hia⟩ : ∃ x, infP a = x := ⟨_, rfl⟩
  have IA := Lib.hid hia
  obtain ⟨s, hss⟩ : ∃ s, oS a = s := ⟨_, rfl⟩
  obtain ⟨e, hee⟩ : ∃ e, oE a = e := ⟨_, rfl⟩
  have HE0 : Hid (scaleP a k = if ia = true ∨ s = 0 then a else roundP 0 (oN a) (e + max (-1000) (min k 1000)) s false) := Lib.hid (by unfold scaleP; rw [if_neg hno, hia, hss, hee])
  rw [hss] at ob1
  rw [hee] at ob2 ob3
  have HSS := Lib.hid hss
  have HEE := Lib.hid hee
  clear hna hno hia hss hee
  cases ia
  case true =>
    have HE : Hid (scaleP a k = a) := Lib.hid (by rw [HE0.out, if_pos (.inl rfl)])
    clear HE0
    go_enter Try.func26, Try.ntmps26
    go_wp2_with fail
    refine (nan_at h NA).mono ?_
    rintro e w' ⟨rfl, rfl⟩
    go_wp2_with fail
    refine (ropen_any a _ h).mono ?_
    rintro e' w1 ⟨rfl, hB1⟩
    go_wp2_with fail
    refine (inf_at h IA).mono ?_
    rintro e w' ⟨rfl, rfl⟩
    go_wp2
    go_ret
    exact ⟨by rw [HE.out]; try rfl, hB1.alloc hB1.size _⟩
  by_cases hs0 : s = 0
  · have HE : Hid (scaleP a k = a) := Lib.hid (by rw [HE0.out, if_pos (.inr hs0)])
    have bs : ((s : Int) == 0) = true := int_eq (y := 0) hs0
    clear HE0 hs0
    go_enter Try.func26, Try.ntmps26
    go_wp2_with fail
    refine (nan_at h NA).mono ?_
    rintro e w' ⟨rfl, rfl⟩
    go_wp2_with fail
    refine (ropen_any a _ h).mono ?_
    rintro e' w1 ⟨rfl, hB1⟩
    rw [HSS.out]
    go_wp2_with fail
    refine (inf_at h IA).mono ?_
    rintro e w' ⟨rfl, rfl⟩
    go_wp2
    go_ret
    exact ⟨by rw [HE.out]; try rfl, hB1.alloc hB1.size _⟩
  · have HE1 : Hid (scaleP a k = roundP 0 (oN a) (e + max (-1000) (min k 1000)) s false) := Lib.hid (by rw [HE0.out, if_neg (by simp [hs0])])
    have bs : ((s : Int) == 0) = false := int_ne (y := 0) hs0
    obtain ⟨K, hK⟩ : ∃ K, max (-1000) (min k 1000) = K := ⟨_, rfl⟩
    have HE : Hid (scaleP a k = roundP 0 (oN a) (e + K) s false) := Lib.hid (by rw [HE1.out, hK])
    have hK1 : -1000 ≤ K ∧ K ≤ 1000 := by omega
    clear HE0 HE1 hs0
    go_enter Try.func26, Try.ntmps26
    go_wp2_with fail
    refine (nan_at h NA).mono ?_
    rintro e w' ⟨rfl, rfl⟩
    go_wp2_with fail
    refine (ropen_any a _ h).mono ?_
    rintro e' w1 ⟨rfl, hB1⟩
    rw [HSS.out, HEE.out]
    go_wp2_with fail
    refine (inf_at h IA).mono ?_
    rintro e w' ⟨rfl, rfl⟩
    go_wp2_with fail
    refine (round_at (s := s) rfl (by omega) (by omega) (Lib.hid rfl)).mono ?_
    rintro e' w' ⟨rfl, rfl⟩
    go_wp2
    go_ret
    exact ⟨by rw [HE.out]; try rfl, hB1.alloc hB1.size _⟩
end Go.Proofs.Ytanccobllehnaaa
