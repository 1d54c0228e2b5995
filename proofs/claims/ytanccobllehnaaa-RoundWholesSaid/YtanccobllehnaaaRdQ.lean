/- The contracts of round.root, round.SqrtBy and round.Sqrt. -/
import Derived.Test.YtanccobllehnaaaRdO
import Derived.Test.YtanccobllehnaaaSoftL
import Derived.Test.YtanccobllehnaaaRootP
import Derived.Test.YtanccobllehnaaaRefH
import Derived.Laws.Bits128
namespace Go.Proofs.Ytanccobllehnaaa
open Go.RowKit

/-- the greatest number up to k whose square is not above n -/
def rtN (n : Nat) : Nat → Nat
  | 0 => 0
  | k + 1 => if (k + 1) * (k + 1) ≤ n then k + 1 else rtN n k
theorem rtN_is (n : Nat) : ∀ k, rtN n k ≤ k ∧ rtN n k * rtN n k ≤ n ∧ (rtN n k < k → n < (rtN n k + 1) * (rtN n k + 1))
  | 0 => ⟨Nat.le_refl _, by simp [rtN], fun h => absurd h (Nat.not_lt_zero _)⟩
  | k + 1 => by
    unfold rtN
    split
    · rename_i h; exact ⟨Nat.le_refl _, h, fun h => absurd h (Nat.lt_irrefl _)⟩
    · rename_i h
      obtain ⟨h1, h2, h3⟩ := rtN_is n k
      refine ⟨by omega, h2, fun _ => ?_⟩
      by_cases e : rtN n k < k
      · exact h3 e
      · rw [show rtN n k = k from by omega]; omega
def rt (n : Nat) : Nat := rtN n 4294967296
theorem rt_eq {n r : Nat} (h1 : r * r ≤ n) (h2 : n < (r + 1) * (r + 1)) (h : n < 18446744073709551616) : rt n = r := by
  obtain ⟨a1, a2, a3⟩ := rtN_is n 4294967296
  have hlt : rtN n 4294967296 < 4294967296 := by
    rcases Nat.lt_or_ge (rtN n 4294967296) 4294967296 with hh | hh
    · exact hh
    · have := Nat.mul_self_le_mul_self hh
      omega
  have h3 := a3 hlt
  unfold rt
  by_cases e1 : rtN n 4294967296 < r
  · have := Nat.mul_self_le_mul_self (show rtN n 4294967296 + 1 ≤ r from e1)
    omega
  · by_cases e2 : r < rtN n 4294967296
    · have := Nat.mul_self_le_mul_self (show r + 1 ≤ rtN n 4294967296 from e2)
      omega
    · omega
theorem rt_is {n : Nat} (h : n < 18446744073709551616) : rt n * rt n ≤ n ∧ n < (rt n + 1) * (rt n + 1) ∧ rt n < 4294967296 := by
  obtain ⟨a1, a2, a3⟩ := rtN_is n 4294967296
  have hlt : rtN n 4294967296 < 4294967296 := by
    rcases Nat.lt_or_ge (rtN n 4294967296) 4294967296 with hh | hh
    · exact hh
    · have := Nat.mul_self_le_mul_self hh
      omega
  exact ⟨a2, a3 hlt, hlt⟩
def bitV (j : Nat) : Nat := if j = 0 then 0 else two (j - 1)
def RTrel (n : Nat) (w : World) (rv bv : Value) (wr : World) : Prop := ∃ j R : Nat, rv = .int .u64 (R : Int) ∧ bv = .int .u64 (bitV j : Int) ∧ j ≤ 32 ∧ Hid (∃ q, R = q * two j) ∧ Hid (R * R ≤ n) ∧ Hid (n < (R + two j) * (R + two j)) ∧ Hid (R + two j ≤ 4294967296) ∧ wr = w
theorem root_bits {q j : Nat} (h : q * two (j + 1) + two (j + 1) ≤ 4294967296) : bits .or .u64 ((q * two (j + 1) : Nat) : Int) ((two j : Nat) : Int) = (((2 * q + 1) * two j : Nat) : Int) := by
  have hp := two_pos j
  have hs := two_succ j
  have e := Nat.two_pow_add_eq_or_of_lt (i := j + 1) (b := two j) (by show two j < two (j + 1); omega) q
  have := bits_or_u64_nat (q * two (j + 1)) (two j) (by omega) (by omega)
  rw [this]
  congr 1
  rw [Nat.mul_comm q]
  show 2 ^ (j + 1) * q ||| two j = _
  rw [← e]
  show two (j + 1) * q + two j = _
  rw [hs, Nat.add_mul, Nat.one_mul, Nat.mul_right_comm]

set_option maxRecDepth 100000 in
set_option maxHeartbeats 1600000 in
theorem root_any (n : Nat) (w : World) (hn : Hid (n < 9223372036854775808)) :
    Calls Try.prog 59 #[.int .u64 (n : Int)] w fun e w' => e = .returned (.int .u64 (rt n : Int)) ∧ w' = w := by
  go_enter Try.func59, Try.ntmps59
  go_wp2
  go_loopw [3, 4] (fun rv bv wr => RTrel n w rv bv wr) (fun _ bv _ => (intOf bv).toNat)
  case atStart => exact ⟨32, 0, rfl, rfl, by omega, Lib.hid ⟨0, by simp⟩, Lib.hid (by simp), Lib.hid (by have := hn.out; simp [two]; omega), Lib.hid (by simp [two]), rfl⟩
  case round =>
    obtain ⟨j, R, rfl, rfl, hj, HQ, H1, H2, H3, rfl⟩ := hrel
    cases j with
    | zero =>
      have HF : Hid (rt n = R) := Lib.hid (rt_eq H1.out H2.out (by have := hn.out; omega))
      have hb : bitV 0 = 0 := rfl
      rw [hb]
      go_wp2
      go_ret
      exact ⟨by rw [HF.out]; try rfl, rfl⟩
    | succ j =>
      have hb : bitV (j + 1) = two j := by unfold bitV; rw [if_neg (by omega)]; rfl
      have hp := two_pos j
      have hs := two_succ j
      have h3 := H3.out
      obtain ⟨t, ht⟩ : ∃ t, R + two j = t := ⟨_, rfl⟩
      have hor : bits .or .u64 (R : Int) ((two j : Nat) : Int) = (t : Int) := by
        obtain ⟨q, hq⟩ := HQ.out
        rw [← ht, hq, root_bits (by rw [← hq]; exact h3)]
        congr 1
        rw [hs, Nat.add_mul, Nat.one_mul, Nat.mul_assoc, Nat.mul_left_comm]
      have hb2 : ((two j : Nat) : Int) / 2 = ((bitV j : Nat) : Int) := by
        unfold bitV
        split
        · rename_i h0; subst h0; rfl
        · have := two_succ (j - 1)
          rw [show j - 1 + 1 = j from by omega] at this
          omega
      have hbl : bitV j < two j := by
        unfold bitV
        split
        · exact hp
        · have h4 := two_succ (j - 1)
          have h5 := two_pos (j - 1)
          rw [show j - 1 + 1 = j from by omega] at h4
          omega
      have hpos : 0 < ((two j : Nat) : Int) := by omega
      have htl : t < 4294967296 := by omega
      have htt : t * t < 18446744073709551616 := by
        have := sq_lt htl
        omega
      have HS := Lib.hid hs
      have HTE := Lib.hid ht
      have HJ := Lib.hid (show j ≤ 32 by omega)
      have HB2 : Hid (bitV j < two j) := Lib.hid hbl
      have hmul : ((t : Int) * (t : Int)) = ((t * t : Nat) : Int) := by simp
      rw [hb]
      clear hb hs h3 hbl hj ht
      obtain ⟨tt, htt2⟩ : ∃ x, t * t = x := ⟨_, rfl⟩
      rw [htt2] at htt hmul
      have HTT := Lib.hid htt2
      have HQ1 : Hid (∃ q, t = q * two j) := Lib.hid (by
        obtain ⟨q, hq⟩ := HQ.out
        exact ⟨2 * q + 1, by rw [← HTE.out, hq, HS.out, Nat.add_mul, Nat.one_mul, Nat.mul_assoc, Nat.mul_left_comm]⟩)
      have HQ2 : Hid (∃ q, R = q * two j) := Lib.hid (by
        obtain ⟨q, hq⟩ := HQ.out
        exact ⟨2 * q, by rw [hq, HS.out, Nat.mul_assoc, Nat.mul_left_comm]⟩)
      have HSUM : Hid (R + two (j + 1) = t + two j) := Lib.hid (by rw [← HTE.out, HS.out]; omega)
      clear htt2
      by_cases hle : tt ≤ n
      · have hle' : (tt : Int) ≤ (n : Int) := by omega
        have HLE := Lib.hid hle
        clear hle
        go_wp2
        go_roundw
        case rel => exact ⟨j, t, rfl, rfl, HJ.out, HQ1, Lib.hid (by rw [HTT.out]; exact HLE.out), Lib.hid (by rw [← HSUM.out]; exact H2.out), Lib.hid (by rw [← HSUM.out]; exact H3.out), rfl⟩
        case measure => simp [intOf]; have := HB2.out; omega
      · have hle' : ¬ (tt : Int) ≤ (n : Int) := by omega
        have HLE := Lib.hid hle
        clear hle
        go_wp2
        go_roundw
        case rel => exact ⟨j, R, rfl, rfl, HJ.out, HQ2, H1, Lib.hid (by rw [HTE.out, HTT.out]; have := HLE.out; omega), Lib.hid (by have h1 := H3.out; have h2 := HS.out; omega), rfl⟩
        case measure => simp [intOf]; have := HB2.out; omega
end Go.Proofs.Ytanccobllehnaaa
