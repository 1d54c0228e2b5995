import Derived.Test.YtegeadkilolngaaSoftR
import Derived.Test.YtegeadkilolngaaLen
import Derived.WalkKit
import Derived.Lib.Hide
import Derived.Laws.Bits64b
import Derived.Laws.ShiftsVarLaws
import Derived.Laws.BitsLemmas
import Derived.Deep.CutRange
import Derived.Deep.CutBlock
import Derived.Test.YtegeadkilolngaaRows
import Derived.Laws.OwnMore
import Derived.Deep.AppendLies
import Derived.Deep.Draws
import Derived.Laws.Rows
import Derived.Maps.AppendAt
import Derived.RegionTactic
import Derived.BigQuiet
import Derived.Deep.QuietTactic
import Derived.Laws.BitsAllLaws
import Derived.Deep.RegionHeld3
import Derived.ProofKit
import Derived.OpenShut
import Derived.ChangeOld
import Derived.SizedLaws
/- Contracts of soft's small functions. -/
namespace Go.Proofs.Ytegeadkilolngaa
open Go.RowKit

theorem blen_half (x : Nat) (h : 0 < x) : blen x = 1 + blen (x / 2) := by
  unfold blen
  rw [if_neg (by omega)]
  by_cases h2 : x / 2 = 0
  · rw [if_pos h2]
    have : x = 1 := by omega
    subst this
    rfl
  · rw [if_neg h2, Nat.log2_def, if_pos (by omega)]
    omega
theorem bitLen_blen : ∀ (f x : Nat), x < 2 ^ f → Lib.bitLenAux f x = blen x
  | 0, x, h => by
    have : x = 0 := by simpa using h
    subst this; rfl
  | f + 1, x, h => by
    unfold Lib.bitLenAux
    split
    · rename_i h0; subst h0; rfl
    · rename_i h0
      rw [bitLen_blen f (x / 2) (by rw [Nat.pow_succ] at h; omega), ← blen_half x (by omega)]
theorem len_any (x : Nat) (w : World) (h : x < 18446744073709551616) : Calls Try.prog 80 #[.int .u64 (x : Int)] w fun e w' => e = .returned (.int .i64 (blen x : Int)) ∧ w' = w := by
  refine (Try.bits_Len64 x w (by omega) (by omega)).mono ?_
  rintro e w' ⟨rfl, rfl⟩
  refine ⟨?_, rfl⟩
  have : Lib.bitLen x = blen x := bitLen_blen 64 x (by simpa using h)
  simp [this]

theorem sign_any (neg : Bool) (w : World) : Calls Try.prog 76 #[.bool neg] w fun e w' => e = .returned (.int .u32 (sgn neg : Int)) ∧ w' = w := by
  go_enter Try.func76, Try.ntmps76
  cases neg
  all_goals
    go_wp2
    go_ret
    exact ⟨rfl, rfl⟩
theorem outwards_any (way : Int) (neg : Bool) (w : World) : Calls Try.prog 83 #[.int .i64 way, .bool neg] w fun e w' => e = .returned (.bool (outw way neg)) ∧ w' = w := by
  go_enter Try.func83, Try.ntmps83
  cases neg
  all_goals
    by_cases h1 : way = 1
    · subst h1
      go_wp2
      go_ret
      exact ⟨rfl, rfl⟩
    · by_cases h2 : way = 2
      · subst h2
        go_wp2
        go_ret
        exact ⟨rfl, rfl⟩
      · have e1 : (way == 1) = false := by simpa using h1
        have e2 : (way == 2) = false := by simpa using h2
        go_wp2
        go_ret
        exact ⟨by simp [outw, e1, e2], rfl⟩
theorem wraps_u32 (n : Int) (h₀ : 0 ≤ n) (h₁ : n < 2 ^ 32) : IntKind.u32.wrap n = n := by rw [IntKind.wrap_u32]; omega
theorem or_sign (neg : Bool) {y : Int} (h0 : 0 ≤ y) (h : y < 2147483648) : bits .or .u32 (sgn neg : Int) y = (sgn neg : Int) + y := by
  have hs : sgn neg = 0 ∨ sgn neg = 2147483648 := by cases neg <;> simp [sgn]
  exact bits_join .u32 32 (by decide) wraps_u32 31 (sgn neg : Int) y (by omega) (by omega) (by omega) h0 (by omega) (by omega)
theorem tiny_any (way : Int) (neg : Bool) (w : World) : Calls Try.prog 81 #[.int .i64 way, .bool neg] w fun e w' => e = .returned (.int .u32 (tinyP way neg : Int)) ∧ w' = w := by
  have ho := or_sign neg (y := 1) (by decide) (by decide)
  go_enter Try.func81, Try.ntmps81
  cases h : outw way neg
  all_goals
    go_wp2_with (first
      | (go_at_call 83; refine (outwards_any way neg _).mono ?_; rintro e w' ⟨rfl, rfl⟩)
      | (go_at_call 76; refine (sign_any neg _).mono ?_; rintro e w' ⟨rfl, rfl⟩))
    go_ret
    exact ⟨by simp [tinyP, h], rfl⟩
theorem huge_any (way : Int) (neg : Bool) (w : World) : Calls Try.prog 82 #[.int .i64 way, .bool neg] w fun e w' => e = .returned (.int .u32 (hugeP way neg : Int)) ∧ w' = w := by
  have ho := or_sign neg (y := 2139095039) (by decide) (by decide)
  have ho' := or_sign neg (y := 2139095040) (by decide) (by decide)
  go_enter Try.func82, Try.ntmps82
  by_cases h1 : way = 1
  · subst h1
    cases neg
    all_goals
      go_wp2_with (first
        | (go_at_call 83; refine (outwards_any _ _ _).mono ?_; rintro e w' ⟨rfl, rfl⟩)
        | (go_at_call 76; refine (sign_any _ _).mono ?_; rintro e w' ⟨rfl, rfl⟩))
      all_goals
        go_ret
        exact ⟨rfl, rfl⟩
  · by_cases h2 : way = 2
    · subst h2
      cases neg
      all_goals
        go_wp2_with (first
          | (go_at_call 83; refine (outwards_any _ _ _).mono ?_; rintro e w' ⟨rfl, rfl⟩)
          | (go_at_call 76; refine (sign_any _ _).mono ?_; rintro e w' ⟨rfl, rfl⟩))
        all_goals
          go_ret
          exact ⟨rfl, rfl⟩
    · have e1 : (way == 1) = false := by simpa using h1
      have e2 : (way == 2) = false := by simpa using h2
      go_wp2_with (first
        | (go_at_call 83; refine (outwards_any _ _ _).mono ?_; rintro e w' ⟨rfl, rfl⟩)
        | (go_at_call 76; refine (sign_any _ _).mono ?_; rintro e w' ⟨rfl, rfl⟩))
      go_ret
      exact ⟨by simp [hugeP, inw, e1, e2], rfl⟩
end Go.Proofs.Ytegeadkilolngaa

/- The contract of soft.Round. -/
namespace Go.Proofs.Ytegeadkilolngaa
open Go.RowKit

theorem blen_eq_zero {s : Nat} : (blen s : Int) = 0 ↔ s = 0 := by
  constructor
  · intro h
    by_cases h0 : s = 0
    · exact h0
    · have := blen_pos (s := s) (by omega); omega
  · rintro rfl; rfl

theorem two_cast (d : Nat) : (2 : Int) ^ d = (two d : Int) := by unfold two; simp
theorem wrap64_nat {x : Nat} (h : x < 18446744073709551616) : IntKind.u64.wrap (x : Int) = (x : Int) := by
  simp [IntKind.wrap, IntKind.bits, IntKind.signed]; omega
theorem two_64 : two 64 = 18446744073709551616 := rfl
theorem and_low {sig d : Nat} (hs : sig < 18446744073709551616) (h0 : 1 ≤ d) (h : d ≤ 64) : bits .and .u64 (sig : Int) (IntKind.u64.wrap (IntKind.u64.wrap (2 ^ d) - 1)) = ((sig % two d : Nat) : Int) := by
  have e : IntKind.u64.wrap (IntKind.u64.wrap (2 ^ d) - 1) = ((two d - 1 : Nat) : Int) := by
    rw [two_cast]
    have hp := two_pos d
    by_cases h64 : d = 64
    · subst h64; rfl
    · have h2 : two d < 18446744073709551616 := by
        have := two_le (show d ≤ 63 by omega)
        have e63 : two 63 = 9223372036854775808 := rfl
        omega
      rw [wrap64_nat h2, show ((two d : Nat) : Int) - 1 = ((two d - 1 : Nat) : Int) from by omega, wrap64_nat (by omega)]
  rw [e, bits_and_u64_nat sig (two d - 1) hs (by have := two_le h; rw [two_64] at this; have := two_pos d; omega)]
  unfold two
  rw [Nat.and_two_pow_sub_one_eq_mod]
theorem half_cast {d : Nat} (h : d ≤ 64) (h0 : 1 ≤ d) : IntKind.u64.wrap (2 ^ (d - 1)) = ((two (d - 1) : Nat) : Int) := by
  rw [two_cast]
  have := two_le (show d - 1 ≤ 63 by omega)
  have e63 : two 63 = 9223372036854775808 := rfl
  exact wrap64_nat (by omega)
theorem quo_cast (sig d : Nat) : (sig : Int) / 2 ^ d = ((sig / two d : Nat) : Int) := by rw [two_cast]; simp
/-- what Round's first switch leaves: the bits kept, more than half, half, more than nothing -/
def r3 (n drop : Int) (sig : Nat) (more : Bool) : Nat × Bool × Bool × Bool :=
  if drop ≤ 0 then (sig * two (-drop).toNat, false, false, more)
  else if n < drop then (0, false, false, true)
  else (sig / two drop.toNat, decide (two (drop.toNat - 1) < sig % two drop.toNat) || (decide (sig % two drop.toNat = two (drop.toNat - 1)) && more),
    decide (sig % two drop.toNat = two (drop.toNat - 1)) && !more, decide (sig % two drop.toNat ≠ 0) || more)
theorem fin_unit (way : Int) (neg : Bool) (U M : Nat) (R A T : Bool) : fin way neg (U * 8388608 + M) R A T = finU way neg (U * 8388608 + (if upB way neg M R A T = true then M + 1 else M)) := by
  have h : upB way neg (U * 8388608 + M) R A T = upB way neg M R A T := by
    unfold upB
    rw [show (U * 8388608 + M) % 2 = M % 2 from by omega]
  unfold fin
  rw [h]
  split
  · rw [Nat.add_assoc]
  · rfl
theorem and_1 {M : Nat} (h : M < 18446744073709551616) : bits .and .u64 (M : Int) 1 = ((M % 2 : Nat) : Int) := by
  have := bits_and_u64_nat M 1 h (by decide)
  rw [show M &&& 1 = M % 2 from Nat.and_two_pow_sub_one_eq_mod M 1] at this
  exact this
theorem r3_facts {exp drop : Int} {sig : Nat} {more : Bool} (hs : 0 < sig) (hd1 : (blen sig : Int) - 24 ≤ drop) (hd2 : -149 - exp ≤ drop) (hd3 : drop = (blen sig : Int) - 24 ∨ drop = -149 - exp) :
    (r3 (blen sig) drop sig more).1 < 16777216 ∧ ((exp + drop + 149).toNat = 0 ∨ 8388608 ≤ (r3 (blen sig) drop sig more).1) := by
  have hn1 := blen_le hs
  have hn2 := blen_lt sig
  have hn4 := blen_pos hs
  unfold r3
  split
  · rename_i hd0
    constructor
    · have h1 : sig * two (-drop).toNat < two (blen sig) * two (-drop).toNat := Nat.mul_lt_mul_of_pos_right hn2 (two_pos _)
      rw [← two_add] at h1
      have h2 := two_le (show blen sig + (-drop).toNat ≤ 24 by omega)
      rw [two_24] at h2
      show sig * two (-drop).toNat < 16777216
      omega
    · by_cases e : drop = -149 - exp
      · left; omega
      · right
        have h1 : two (blen sig - 1) * two (-drop).toNat ≤ sig * two (-drop).toNat := Nat.mul_le_mul_right _ hn1
        rw [← two_add] at h1
        have h2 := two_le (show 23 ≤ blen sig - 1 + (-drop).toNat by omega)
        rw [two_23] at h2
        show 8388608 ≤ sig * two (-drop).toNat
        omega
  · split
    · refine ⟨by show 0 < 16777216; omega, .inl ?_⟩; omega
    · constructor
      · show sig / two drop.toNat < 16777216
        rw [Nat.div_lt_iff_lt_mul (two_pos _), ← two_24, ← two_add]
        exact Nat.lt_of_lt_of_le hn2 (two_le (by omega))
      · by_cases e : drop = -149 - exp
        · left; omega
        · right
          show 8388608 ≤ sig / two drop.toNat
          rw [Nat.le_div_iff_mul_le (two_pos _), ← two_23, ← two_add]
          exact Nat.le_trans (two_le (by omega)) hn1
theorem roundP_r3 {way : Int} {neg : Bool} {exp drop : Int} {sig : Nat} {more : Bool} (h0 : ¬ sig = 0) (hlo : ¬ exp < -300) (hhi : ¬ 200 < exp) (hd : drop = max ((blen sig : Int) - 24) (-149 - exp)) :
    roundP way neg exp sig more = fin way neg ((exp + drop + 149).toNat * 8388608 + (r3 (blen sig) drop sig more).1) (r3 (blen sig) drop sig more).2.2.2 (r3 (blen sig) drop sig more).2.1 (r3 (blen sig) drop sig more).2.2.1 := by
  unfold roundP
  rw [if_neg (by omega), if_neg (by omega), if_neg hhi]
  dsimp only
  rw [← hd]
  unfold r3
  split
  · rfl
  · split
    · rfl
    · rfl
set_option maxRecDepth 100000 in
set_option maxHeartbeats 1600000 in
theorem round_any (way : Int) (neg : Bool) (exp : Int) (sig : Nat) (more : Bool) (w : World) (hs : sig < 18446744073709551616) (he : -9223372036854775808 ≤ exp ∧ exp ≤ 9223372036854775807) :
    Calls Try.prog 67 #[.int .i64 way, .bool neg, .int .i64 exp, .int .u64 (sig : Int), .bool more] w fun e w' => e = .returned (.int .u32 (roundP way neg exp sig more : Int)) ∧ w' = w := by
  have hn := blen_64 hs
  have hz := blen_eq_zero (s := sig)
  by_cases h0 : sig = 0
  · subst h0
    cases more
    · go_enter Try.func67, Try.ntmps67
      go_wp2_with (first
        | (go_at_call 80; refine (len_any 0 _ (by decide)).mono ?_; rintro e w' ⟨rfl, rfl⟩)
        | (go_at_call 76; refine (sign_any _ _).mono ?_; rintro e w' ⟨rfl, rfl⟩))
      go_ret
      exact ⟨rfl, rfl⟩
    · go_enter Try.func67, Try.ntmps67
      go_wp2_with (first
        | (go_at_call 80; refine (len_any 0 _ (by decide)).mono ?_; rintro e w' ⟨rfl, rfl⟩)
        | (go_at_call 81; refine (tiny_any _ _ _).mono ?_; rintro e w' ⟨rfl, rfl⟩))
      go_ret
      exact ⟨rfl, rfl⟩
  have h1 : ((blen sig : Int) == 0) = false := by rw [beq_eq_false_iff_ne]; intro e; exact h0 (hz.1 e)
  have hn0 : 1 ≤ blen sig := blen_pos (by omega)
  by_cases hlo : exp < -300
  · have HR : Hid (roundP way neg exp sig more = tinyP way neg) := Lib.hid (by unfold roundP; rw [if_neg (by omega), if_pos (.inr hlo)])
    go_enter Try.func67, Try.ntmps67
    go_wp2_with (first
      | (go_at_call 80; refine (len_any sig _ hs).mono ?_; rintro e w' ⟨rfl, rfl⟩)
      | (go_at_call 81; refine (tiny_any _ _ _).mono ?_; rintro e w' ⟨rfl, rfl⟩))
    go_ret
    exact ⟨by rw [HR.out]; rfl, rfl⟩
  by_cases hhi : 200 < exp
  · have HR : Hid (roundP way neg exp sig more = hugeP way neg) := Lib.hid (by unfold roundP; rw [if_neg (by omega), if_neg (by omega), if_pos hhi])
    go_enter Try.func67, Try.ntmps67
    go_wp2_with (first
      | (go_at_call 80; refine (len_any sig _ hs).mono ?_; rintro e w' ⟨rfl, rfl⟩)
      | (go_at_call 82; refine (huge_any _ _ _).mono ?_; rintro e w' ⟨rfl, rfl⟩))
    go_ret
    exact ⟨by rw [HR.out]; rfl, rfl⟩
  go_enter Try.func67, Try.ntmps67
  go_upto_block 1 with (first
      | (go_at_call 80; refine (len_any sig _ hs).mono ?_; rintro e w' ⟨rfl, rfl⟩))
  obtain ⟨drop, hdrop⟩ : ∃ d, d = max ((blen sig : Int) - 24) (-149 - exp) := ⟨_, rfl⟩
  rw [← hdrop]
  have hd1 : (blen sig : Int) - 24 ≤ drop := by omega
  have hd2 : -149 - exp ≤ drop := by omega
  have hd3 : drop = (blen sig : Int) - 24 ∨ drop = -149 - exp := by omega
  have HDROP := Lib.hid hdrop
  clear hdrop
  go_cut [13, 14, 15, 16, 17, 18] from 54 to 98 (fun m a t r _ _ wx => m = .int .u64 ((r3 (blen sig) drop sig more).1 : Int) ∧ a = .bool (r3 (blen sig) drop sig more).2.1 ∧ t = .bool (r3 (blen sig) drop sig more).2.2.1 ∧ r = .bool (r3 (blen sig) drop sig more).2.2.2 ∧ wx = w')
  case first =>
    by_cases hd0 : drop ≤ 0
    · have hm : sig * two (-drop).toNat < 16777216 := by
        have h1 : sig * two (-drop).toNat < two (blen sig) * two (-drop).toNat := Nat.mul_lt_mul_of_pos_right (blen_lt sig) (two_pos _)
        rw [← two_add] at h1
        have h2 := two_le (show blen sig + (-drop).toNat ≤ 24 by omega)
        rw [two_24] at h2
        omega
      have HR : Hid (r3 (blen sig) drop sig more = (sig * two (-drop).toNat, false, false, more)) := Lib.hid (by simp only [r3, if_pos hd0])
      have HM : Hid (IntKind.u64.wrap ((sig : Int) * 2 ^ (-drop).toNat) = ((sig * two (-drop).toNat : Nat) : Int)) := Lib.hid (by
        rw [two_cast, ← Int.natCast_mul, wrap64_nat (by omega)])
      clear hm
      go_wp2
      go_meet
      case rel => rw [HR.out]; exact ⟨congrArg (Value.int .u64) HM.out, rfl, rfl, rfl, rfl⟩
    · by_cases hdn : (blen sig : Int) < drop
      · have HR : Hid (r3 (blen sig) drop sig more = (0, false, false, true)) := Lib.hid (by simp [r3, hd0, hdn])
        go_wp2
        go_meet
        case rel => rw [HR.out]; exact ⟨rfl, rfl, rfl, rfl, rfl⟩
      · have hq := quo_cast sig drop.toNat
        have hl := and_low hs (show 1 ≤ drop.toNat by omega) (by omega)
        have hh := half_cast (d := drop.toNat) (by omega) (by omega)
        have hhp := two_pos (drop.toNat - 1)
        have HR : Hid (r3 (blen sig) drop sig more = (sig / two drop.toNat, decide (two (drop.toNat - 1) < sig % two drop.toNat) || (decide (sig % two drop.toNat = two (drop.toNat - 1)) && more),
            decide (sig % two drop.toNat = two (drop.toNat - 1)) && !more, decide (sig % two drop.toNat ≠ 0) || more)) := Lib.hid (by simp [r3, hd0, hdn])
        generalize sig % two drop.toNat = L at *
        generalize two (drop.toNat - 1) = H at *
        generalize sig / two drop.toNat = Q at *
        by_cases h1 : L < H
        · have c1 : (L : Int) < (H : Int) := by omega
          have c2 : ((L : Int) == (H : Int)) = false := by rw [beq_eq_false_iff_ne]; omega
          by_cases h2 : L = 0
          · subst h2
            have c3 : (((0 : Nat) : Int) != 0) = false := rfl
            go_wp2
            go_meet
            case rel => rw [HR.out, decide_eq_false (show ¬ H < 0 by omega), decide_eq_false (show ¬ 0 = H by omega), decide_eq_false (show ¬ 0 ≠ 0 by omega)]; exact ⟨rfl, by simp, by simp, by simp, rfl⟩
          · have c3 : ((L : Int) != 0) = true := by simp; omega
            go_wp2
            go_meet
            case rel => rw [HR.out, decide_eq_false (show ¬ H < L by omega), decide_eq_false (show ¬ L = H by omega), decide_eq_true (show L ≠ 0 by omega)]; exact ⟨rfl, by simp, by simp, by simp, rfl⟩
        · by_cases h2 : L = H
          · subst h2
            have c3 : ((L : Int) != 0) = true := by simp; omega
            go_wp2
            go_meet
            case rel => rw [HR.out, decide_eq_false (show ¬ L < L by omega), decide_eq_true (show L ≠ 0 by omega)]; exact ⟨rfl, by simp, by simp, by simp, rfl⟩
          · have c1 : (H : Int) < (L : Int) := by omega
            have c2 : ((L : Int) == (H : Int)) = false := by rw [beq_eq_false_iff_ne]; omega
            have c3 : ((L : Int) != 0) = true := by simp; omega
            go_wp2
            go_meet
            case rel => rw [HR.out, decide_eq_true (show H < L by omega), decide_eq_false (show ¬ L = H by omega), decide_eq_true (show L ≠ 0 by omega)]; exact ⟨rfl, by simp, by simp, by simp, rfl⟩
  case rest =>
    obtain ⟨rfl, rfl, rfl, rfl, rfl⟩ := hcut
    have HR := Lib.hid (roundP_r3 (way := way) (neg := neg) (more := more) h0 (by omega) (by omega) HDROP.out)
    obtain ⟨hM, hU⟩ := r3_facts (exp := exp) (drop := drop) (more := more) (Nat.pos_of_ne_zero h0) hd1 hd2 hd3
    generalize r3 (blen sig) drop sig more = q at *
    obtain ⟨M, A, T, Rr⟩ := q
    dsimp only at *
    go_upto_block 2 with fail
    go_cut [13] from 99 to 121 (fun m wx => m = .int .u64 ((if upB way neg M Rr A T = true then M + 1 else M : Nat) : Int) ∧ wx = wc)
    case first =>
      have hp := and_1 (M := M) (by omega)
      by_cases w1 : way = 1
      · subst w1
        cases Rr
        · go_wp2
          go_meet
          case rel => exact ⟨rfl, rfl⟩
        · cases ho : outw 1 neg
          all_goals
            go_wp2_with (go_at_call 83; refine (outwards_any _ _ _).mono ?_; rintro e w' ⟨rfl, rfl⟩)
            go_meet
            case rel => exact ⟨by simp [upB, ho], rfl⟩
      · by_cases w2 : way = 2
        · subst w2
          cases Rr
          · go_wp2
            go_meet
            case rel => exact ⟨rfl, rfl⟩
          · cases ho : outw 2 neg
            all_goals
              go_wp2_with (go_at_call 83; refine (outwards_any _ _ _).mono ?_; rintro e w' ⟨rfl, rfl⟩)
              go_meet
              case rel => exact ⟨by simp [upB, ho], rfl⟩
        · have e1 : (way == 1) = false := by simpa using w1
          have e2 : (way == 2) = false := by simpa using w2
          cases A
          · cases T
            · go_wp2
              go_meet
              case rel => exact ⟨by simp [upB, e1, e2], rfl⟩
            · by_cases hpar : M % 2 = 1
              · rw [hpar] at hp
                go_wp2
                go_meet
                case rel => exact ⟨by simp [upB, e1, e2, hpar], rfl⟩
              · rw [show M % 2 = 0 from by omega] at hp
                go_wp2
                go_meet
                case rel => exact ⟨by simp [upB, e1, e2, hpar], rfl⟩
          · go_wp2
            go_meet
            case rel => exact ⟨by simp [upB, e1, e2], rfl⟩
    case rest =>
      obtain ⟨rfl, rfl⟩ := hcut
      have HF := Lib.hid (fin_unit way neg (exp + drop + 149).toNat M Rr A T)
      have hM2 : (if upB way neg M Rr A T = true then M + 1 else M) ≤ 16777216 ∧ ((exp + drop + 149).toNat = 0 ∨ 8388608 ≤ (if upB way neg M Rr A T = true then M + 1 else M)) := by split <;> omega
      generalize (if upB way neg M Rr A T = true then M + 1 else M) = M2 at *
      obtain ⟨hM2, hU2⟩ := hM2
      have HE : Hid (roundP way neg exp sig more = finU way neg ((exp + drop + 149).toNat * 8388608 + M2)) := Lib.hid (by rw [HR.out, HF.out])
      clear HR HF hU hM
      by_cases m0 : M2 = 0
      · subst m0
        have HE2 : Hid (roundP way neg exp sig more = sgn neg) := Lib.hid (by rw [HE.out, show (exp + drop + 149).toNat * 8388608 + 0 = 0 from by omega]; rfl)
        go_wp2_with (go_at_call 76; refine (sign_any _ _).mono ?_; rintro e w' ⟨rfl, rfl⟩)
        go_ret
        exact ⟨by rw [HE2.out]; rfl, rfl⟩
      · have m1 : ((M2 : Int) == 0) = false := by rw [beq_eq_false_iff_ne]; omega
        by_cases u0 : 104 < exp + drop
        · have HE2 : Hid (roundP way neg exp sig more = hugeP way neg) := Lib.hid (by rw [HE.out, finU_huge (by omega)])
          go_wp2_with (go_at_call 82; refine (huge_any _ _ _).mono ?_; rintro e w' ⟨rfl, rfl⟩)
          go_ret
          exact ⟨by rw [HE2.out]; rfl, rfl⟩
        · by_cases u1 : 2139095040 ≤ (exp + drop + 149) * 8388608 + M2
          · have HE2 : Hid (roundP way neg exp sig more = hugeP way neg) := Lib.hid (by rw [HE.out, finU_huge (by omega)])
            go_wp2_with (go_at_call 82; refine (huge_any _ _ _).mono ?_; rintro e w' ⟨rfl, rfl⟩)
            go_ret
            exact ⟨by rw [HE2.out]; rfl, rfl⟩
          · have HE2 : Hid (roundP way neg exp sig more = sgn neg + ((exp + drop + 149).toNat * 8388608 + M2)) := Lib.hid (by rw [HE.out, finU_lt (by omega)])
            have ho := or_sign neg (y := (exp + drop + 149) * 8388608 + M2) (by omega) (by omega)
            have HO := Lib.hid ho
            clear ho
            go_wp2_with (go_at_call 76; refine (sign_any _ _).mono ?_; rintro e w' ⟨rfl, rfl⟩)
            go_ret
            exact ⟨by rw [HE2.out]; exact congrArg Ending.returned (congrArg (Value.int .u32) (HO.out.trans (by omega))), rfl⟩
end Go.Proofs.Ytegeadkilolngaa

/- Words for memory: a slice that reads as a list of cells (nil let in), a block known whole, an append onto a row of the call's own. (Sections 1 to 3 of the guide's page of words offered for copying; behind them my own words for bytes.) -/
namespace Go.Proofs.Ytegeadkilolngaa
open Go.RowKit

theorem block_of_add (a : Addr) (n : Nat) : (a.add n).block = a.block := by unfold Addr.add; split <;> rfl
theorem add_of_add (a : Addr) (i j : Nat) : (a.add i).add j = a.add (i + j) := by
  unfold Addr.add
  by_cases hi : i = 0 <;> by_cases hj : j = 0 <;> simp [hi, hj, Nat.add_assoc]

def Reads (w : World) (B size : Nat) (A : Option Addr) (n : Nat) (xs : List Value) : Prop :=
  xs.length = n * size ∧ (0 < n → ∃ ad, A = some ad ∧ ad.block < B ∧ ∀ j u, xs[j]? = some u → w.cell? (ad.add j) = some u)

section
variable {w w' : World} {B B' size n : Nat} {A : Option Addr} {xs : List Value}
theorem Reads.none_ : Reads w B size A 0 [] := ⟨by simp, fun h => absurd h (by omega)⟩
theorem Reads.at_ {k : Nat} (h : Reads w B 1 A n xs) (hk : k < n) : ∃ ad u, A = some ad ∧ ad.block < B ∧ xs[k]? = some u ∧ w.cell? (ad.add k) = some u := by
  obtain ⟨ad, e, hb, hc⟩ := h.2 (by omega)
  have hl : k < xs.length := by have := h.1; omega
  exact ⟨ad, xs[k], e, hb, List.getElem?_eq_getElem hl, hc k _ (List.getElem?_eq_getElem hl)⟩
theorem Reads.keep (h : Reads w B size A n xs) (hk : ∀ p : Addr, p.block < B → w'.cell? p = w.cell? p) : Reads w' B size A n xs :=
  ⟨h.1, fun hn => by
    obtain ⟨ad, e, hb, hc⟩ := h.2 hn
    exact ⟨ad, e, hb, fun j u hu => (hk _ (by rw [block_of_add]; exact hb)).trans (hc j u hu)⟩⟩
theorem Reads.more (h : Reads w B size A n xs) (hB : B ≤ B') : Reads w B' size A n xs :=
  ⟨h.1, fun hn => by
    obtain ⟨ad, e, hb, hc⟩ := h.2 hn
    exact ⟨ad, e, by omega, hc⟩⟩
theorem Reads.below (h : Reads w B size A n xs) (hb : Below B w w') : Reads w' B size A n xs := h.keep fun _ hp => hb.cell hp
theorem Reads.drew (h : Reads w B size A n xs) : Reads w.drew B size A n xs := h
theorem Reads.drewN (h : Reads w B size A n xs) (k : Nat) : Reads (w.drewN k) B size A n xs := h
theorem Reads.alloc (h : Reads w B size A n xs) (hB : B ≤ w.heap.size) (o : Obj) : Reads (w.alloc o) B size A n xs := h.keep fun p hp => World.cell?_alloc_lt w o p (by omega)
theorem Reads.setCell (h : Reads w B size A n xs) {p : Addr} (hB : B ≤ p.block) (u : Value) : Reads (w.setCell p u) B size A n xs :=
  h.keep fun q hq => World.cell?_setCell_other w p q u (fun e => by subst e; omega)
theorem Reads.grown (h : Reads w B size A n xs) {row : Option Nat} (hg : w.grownBy w' row) (hB : B ≤ w.heap.size) (hr : ∀ g, row = some g → B ≤ g) : Reads w' B size A n xs :=
  h.keep fun p hp => World.cell?_of_block (hg.block p.block (by omega) (fun e => by have := hr _ e.symm; omega))
theorem Reads.cut (h : Reads w B size A n xs) {k cap : Nat} (hk : k ≤ n) (hc : n ≤ cap) :
    Reads w B size (if cap = k then A else A.map (·.add (k * size))) (n - k) (xs.drop (k * size)) := by
  refine ⟨by rw [List.length_drop, h.1, Nat.sub_mul], fun hn => ?_⟩
  obtain ⟨ad, rfl, hb, hcell⟩ := h.2 (by omega)
  rw [if_neg (by omega)]
  refine ⟨ad.add (k * size), rfl, by rw [block_of_add]; exact hb, fun j u hu => ?_⟩
  rw [add_of_add]
  exact hcell _ u (by rw [← hu, List.getElem?_drop])
theorem Reads.of_own {base : Nat} {e : TypeId} {c : Nat} (h : w.ownsRow base e size (.slice A n c) n xs) : Reads w w.heap.size size A n xs := by
  refine ⟨h.1, fun hn => ?_⟩
  obtain ⟨g, cap, hv, _, hlt⟩ := h.form hn
  have hA : A = some ⟨g, 0, none⟩ := by injection hv
  subst hA
  exact ⟨_, rfl, hlt, h.cells (g := g) rfl⟩
end
def Blk (w : World) (g : Nat) (t : TypeId) (cs : Array Value) : Prop := w.heap[g]? = some (.cells cs t (0, 0))

section
variable {w w' : World} {g : Nat} {t : TypeId} {cs : Array Value}
theorem Blk.lt (h : Blk w g t cs) : g < w.heap.size := by
  rcases Nat.lt_or_ge g w.heap.size with hlt | hge
  · exact hlt
  · unfold Blk at h; rw [Array.getElem?_eq_none hge] at h; cases h
theorem Blk.cell (h : Blk w g t cs) (i : Nat) : w.cell? ⟨g, i, none⟩ = cs[i]? := cell_of_row w g i cs t (0, 0) h
theorem Blk.frozen (h : Blk w g t cs) (i : Nat) : w.frozen? ⟨g, i, none⟩ = false := by
  unfold Blk at h
  simp [World.frozen?, h]
theorem Blk.new (w : World) (t : TypeId) (cs : Array Value) : Blk (w.alloc (.cells cs t)) w.heap.size t cs := heap_alloc_new w _
theorem Blk.drew (h : Blk w g t cs) : Blk w.drew g t cs := h
theorem Blk.drewN (h : Blk w g t cs) (n : Nat) : Blk (w.drewN n) g t cs := h
theorem Blk.alloc (h : Blk w g t cs) (o : Obj) : Blk (w.alloc o) g t cs := (Below.heap_alloc w o g h.lt).trans h
theorem Blk.set_ (h : Blk w g t cs) (i : Nat) (u : Value) : Blk (w.setCell ⟨g, i, none⟩ u) g t (cs.setIfInBounds i u) := by
  unfold Blk at h ⊢
  simp [World.setCell, Array.getElem?_modify, h]
theorem Blk.far (h : Blk w g t cs) {p : Addr} (hp : g ≠ p.block) (u : Value) : Blk (w.setCell p u) g t cs := (Below.heap_setCell w p u g hp).trans h
theorem Blk.below {B : Nat} (h : Blk w g t cs) (hb : Below B w w') (hg : g < B) : Blk w' g t cs := (hb.block g hg).trans h
theorem Blk.grown {row : Option Nat} (h : Blk w g t cs) (hb : w.grownBy w' row) (hg : some g ≠ row) : Blk w' g t cs := (hb.block g h.lt hg).trans h
theorem Blk.ne_ {g' : Nat} {t' : TypeId} {cs' : Array Value} (h : Blk w g t cs) (h' : Blk w g' t' cs') (hne : t ≠ t') : g ≠ g' := by
  rintro rfl
  unfold Blk at h h'
  rw [h] at h'
  injection h' with h'
  injection h' with _ ht
  exact hne ht
theorem own_blk_ne {base : Nat} {e : TypeId} {size n : Nat} {v : Value} {xs : List Value} (h : w.ownsRow base e size v n xs) (hg : Blk w g t cs) (hne : e ≠ t) : v.ownBlock ≠ some g := by
  rcases h.2 with ⟨rfl, _⟩ | ⟨g', cap, cur, rfl, _, hh, _⟩
  · simp [Value.ownBlock]
  · intro he
    have : g' = g := by simpa [Value.ownBlock] using he
    subst this
    exact Blk.ne_ (t := e) hh hg hne rfl
end
section
variable {P : Program} (w : World)

/-- append onto a row of the call's own, whatever its row's size, as long as the new row has room in memory -/
theorem run_append_wide (base : Nat) (t ty e : TypeId) (i : TypeInfo) (z : Value) (size bytes : Nat) (ht : P.underlying t = some (.slice e)) (hi : P.info? e = some i) (hz : i.zero = some z)
    (hsize : i.size = size) (hby : i.bytes = bytes) (hzs : z.cells.size = size) (hsz : 0 < size)
    (v : Value) (n : Nat) (xs : List Value) (hown : w.ownsRow base e size v n xs)
    (a : Addr) (m c : Nat) (news : List Value) (hl : news.length = m * size) (hnews : ∀ j u, news[j]? = some u → w.cell? (a.add j) = some u) (h1 : ∀ u ∈ news, u.oneCell' = true)
    (h63 : n + m ≤ maxLen) (hfit : ∀ old, old < n + m → Builtin.nextslicecap (n + m) old * bytes ≤ 281474976710656) (hbase : base ≤ w.heap.size) :
    ∃ v' w', (Builtin.append_ #[t, t] ty #[v, .slice (some a) m c]).run P w = .ok v' w' ∧ w'.ownsRow base e size v' (n + m) (xs ++ news) ∧ w.grownBy w' v.ownBlock ∧
      (v' = .slice none 0 0 ↔ v = .slice none 0 0 ∧ m = 0) ∧ (v'.ownBlock = v.ownBlock ∨ v'.ownBlock = some w.heap.size) := by
  subst hsize
  subst hby
  have hsmall : n + m ≤ 9223372036854775807 := by simp only [maxLen] at h63; omega
  have hlen : (xs ++ news).length = (n + m) * i.size := by rw [List.length_append, hown.1, hl, Nat.add_mul]
  have grown : ∀ (old : Nat), old < n + m → ∀ (row : Option Nat),
      (w.drew.alloc (.cells (xs.toArray ++ news.toArray ++ Builtin.zeroCells z.cells (grownCap w (n + m) old e - (n + m))) e)).ownsRow base e i.size
        (.slice (some ⟨w.heap.size, 0, none⟩) (n + m) (grownCap w (n + m) old e)) (n + m) (xs ++ news) ∧
      w.grownBy (w.drew.alloc (.cells (xs.toArray ++ news.toArray ++ Builtin.zeroCells z.cells (grownCap w (n + m) old e - (n + m))) e)) row := by
    intro old ho row
    have hge := grownCap_ge w (n + m) old e
    have hcm : grownCap w (n + m) old e ≤ maxLen := grownCap_le_maxLen w (n + m) old e h63
    refine ⟨⟨hlen, .inr ⟨w.heap.size, _, _, rfl, hbase, heap_alloc_new w.drew _, hge, hcm, ?_, ?_⟩⟩, ⟨rfl, rfl, rfl, by simp, fun k hk _ => Below.heap_alloc w.drew _ k hk⟩⟩
    · simp only [Array.size_append, List.size_toArray, size_zeroCells, hzs, hown.1, hl, ← Nat.add_mul]
      congr 1
      omega
    · simp only [Array.toList_append, List.append_assoc]
      rw [← List.append_assoc, ← hlen]
      exact List.take_left
  rcases hown.2 with ⟨rfl, rfl⟩ | ⟨g, cap, cur, rfl, hbg, hg, hnc, hcm, hcs, htake⟩
  · have hx : xs = [] := List.eq_nil_of_length_eq_zero (by simpa using hown.1)
    subst hx
    by_cases hm : m = 0
    · subst hm
      have hn : news = [] := List.eq_nil_of_length_eq_zero (by simpa using hl)
      subst hn
      refine ⟨.slice none 0 0, w, ?_, World.ownsRow_nil w base e i.size, ⟨rfl, rfl, rfl, Nat.le_refl _, fun _ _ _ => rfl⟩, by simp, Or.inl rfl⟩
      simp [Builtin.append_, run_underlying ht, sizeOf, typeInfo, hi, Builtin.lenOf, Builtin.firstCells, loadCells, loadCellsFrom]
    · have hr := run_append_nil (P := P) w t ty e i z ht hi hz a m c news hl hnews (by omega) (by omega) (by have hb := hfit 0 (by omega); rw [nextslicecap_zero (by omega)] at hb; simpa using hb)
      have hgr := grown 0 (by omega) (Value.ownBlock (.slice none 0 0))
      simp only [Nat.zero_add, List.nil_append, Array.empty_append] at hgr ⊢
      exact ⟨_, _, hr, hgr.1, hgr.2, by simp [hm], Or.inr rfl⟩
  · by_cases hroom : n + m ≤ cap
    · have hfit : n * i.size + news.length ≤ cur.size := by rw [hl, hcs, ← Nat.add_mul]; exact Nat.mul_le_mul_right _ hroom
      have hr := run_append_room (P := P) w t ty e i ht hi g n cap cur hg a m c news hl hnews h1 hroom hfit
      refine ⟨_, _, hr, ⟨hlen, .inr ⟨g, cap, _, rfl, hbg, setRow_heap w g cur _ e _ hg, hroom, hcm, ?_, ?_⟩⟩, ⟨rfl, rfl, rfl, by simp, fun k _ hk => setRow_other w g k _ (fun e => hk (by simp [Value.ownBlock, e]))⟩, by simp, Or.inl rfl⟩
      · simp only [List.size_toArray, List.length_append, List.length_take, List.length_drop, Array.length_toList]
        omega
      · rw [htake, ← hlen]
        exact List.take_left
    · have holds : ∀ j u, xs[j]? = some u → w.cell? ((⟨g, 0, none⟩ : Addr).add j) = some u := hown.cells (g := g) rfl
      have hr := run_append_grow (P := P) w t ty e i z ht hi hz ⟨g, 0, none⟩ n cap xs hown.1 holds a m c news hl hnews (by omega) (by omega) (hfit cap (by omega))
      have hgr := grown cap (by omega) (Value.ownBlock (.slice (some ⟨g, 0, none⟩) n cap))
      exact ⟨_, _, hr, hgr.1, hgr.2, by simp, Or.inr rfl⟩

theorem fit_small {need bytes : Nat} (hb : need * bytes ≤ 140737488355328) : ∀ old, old < need → Builtin.nextslicecap need old * bytes ≤ 281474976710656 := fun _ h => growslice_fits h hb
theorem nextslicecap_quarter {need old : Nat} (h : old < need) : Builtin.nextslicecap need old ≤ need + (need + 768) / 4 + 512 := by
  unfold Builtin.nextslicecap
  split
  · omega
  · split
    · omega
    · rw [growBy_four]
      repeat' split
      all_goals omega
/-- bytes: half as much again -/
theorem fit_wide {need : Nat} (hb : need ≤ 211106232532992) : ∀ old, old < need → Builtin.nextslicecap need old * 1 ≤ 281474976710656 := fun _ h => by
  have := nextslicecap_quarter h
  omega

theorem run_append_of_nil (base : Nat) (t ty e : TypeId) (i : TypeInfo) (size : Nat) (ht : P.underlying t = some (.slice e)) (hi : P.info? e = some i)
    (v : Value) (n : Nat) (xs : List Value) (hown : w.ownsRow base e size v n xs) (c : Nat) : (Builtin.append_ #[t, t] ty #[v, .slice none 0 c]).run P w = .ok v w := by
  rcases hown.2 with ⟨rfl, rfl⟩ | ⟨g, cap, cur, rfl, _, _, hnc, _⟩
  · simp [Builtin.append_, run_underlying ht, sizeOf, typeInfo, hi, Builtin.lenOf, Builtin.firstCells]
  · simp [Builtin.append_, run_underlying ht, sizeOf, typeInfo, hi, Builtin.lenOf, Builtin.firstCells, hnc, storeCells]

theorem run_append_any (base : Nat) (t ty e : TypeId) (i : TypeInfo) (z : Value) (size bytes : Nat) (ht : P.underlying t = some (.slice e)) (hi : P.info? e = some i) (hz : i.zero = some z)
    (hsize : i.size = size) (hby : i.bytes = bytes) (hzs : z.cells.size = size) (hsz : 0 < size)
    (v : Value) (n : Nat) (xs : List Value) (hown : w.ownsRow base e size v n xs)
    (B : Nat) (A : Option Addr) (m c : Nat) (news : List Value) (hr : Reads w B size A m news) (h1 : ∀ u ∈ news, u.oneCell' = true)
    (h63 : n + m ≤ maxLen) (hfit : ∀ old, old < n + m → Builtin.nextslicecap (n + m) old * bytes ≤ 281474976710656) (hbase : base ≤ w.heap.size) :
    ∃ v' w', (Builtin.append_ #[t, t] ty #[v, .slice A m c]).run P w = .ok v' w' ∧ w'.ownsRow base e size v' (n + m) (xs ++ news) ∧ w.grownBy w' v.ownBlock ∧
      (v'.ownBlock = v.ownBlock ∨ v'.ownBlock = some w.heap.size) := by
  rcases A with _ | ad
  · have hm : m = 0 := by
      rcases Nat.eq_zero_or_pos m with h0 | h0
      · exact h0
      · obtain ⟨ad, h, _⟩ := hr.2 h0
        cases h
    subst hm
    have hn : news = [] := List.eq_nil_of_length_eq_zero (by simpa using hr.1)
    subst hn
    exact ⟨v, w, run_append_of_nil w base t ty e i size ht hi v n xs hown c, by simpa using hown, World.grownBy.refl w _, .inl rfl⟩
  · have hcells : ∀ j u, news[j]? = some u → w.cell? (ad.add j) = some u := by
      intro j u hu
      rcases Nat.eq_zero_or_pos m with h0 | h0
      · subst h0
        have hn : news = [] := List.eq_nil_of_length_eq_zero (by simpa using hr.1)
        subst hn
        simp at hu
      · obtain ⟨ad', h, _, hc⟩ := hr.2 h0
        injection h with h
        subst h
        exact hc j u hu
    obtain ⟨v', w', hrun, h2, h3, _, h5⟩ := run_append_wide (P := P) w base t ty e i z size bytes ht hi hz hsize hby hzs hsz v n xs hown ad m c news hr.1 hcells h1 h63 hfit hbase
    exact ⟨v', w', hrun, h2, h3, h5⟩

theorem wp_append_any {o : Oper} {a : Act} {K : Act → World → Prop} {Q : Exit → Act → World → Prop} (s x : Operand) (t : TypeId)
    (ho : o.op = .call { callee := .builtin .append, args := #[s, x], argTypes := #[t, t] })
    (base : Nat) (e : TypeId) (i : TypeInfo) (z : Value) (size bytes : Nat) (ht : P.underlying t = some (.slice e)) (hi : P.info? e = some i) (hz : i.zero = some z)
    (hsize : i.size = size) (hby : i.bytes = bytes) (hzs : z.cells.size = size) (hsz : 0 < size)
    (v : Value) (n : Nat) (xs : List Value) (hs : a.eval s = v) (hown : w.ownsRow base e size v n xs)
    (B : Nat) (A : Option Addr) (m c : Nat) (news : List Value) (hx : a.eval x = .slice A m c) (hr : Reads w B size A m news) (h1 : ∀ u ∈ news, u.oneCell' = true)
    (h63 : n + m ≤ maxLen) (hfit : ∀ old, old < n + m → Builtin.nextslicecap (n + m) old * bytes ≤ 281474976710656) (hbase : base ≤ w.heap.size)
    (h : ∀ v' w', w'.ownsRow base e size v' (n + m) (xs ++ news) → w.grownBy w' v.ownBlock → (v'.ownBlock = v.ownBlock ∨ v'.ownBlock = some w.heap.size) → K (a.put o.dst v') w') : o.wp P a w K Q := by
  obtain ⟨v', w', hrun, h2, h3, h4⟩ := run_append_any (P := P) w base t o.type e i z size bytes ht hi hz hsize hby hzs hsz v n xs hown B A m c news hr h1 h63 hfit hbase
  unfold Oper.wp execOp
  simp only [ho, resolve, invoke, builtin, Sem.run_bind, Sem.run_pure, Result.andThen_ok, List.map_toArray, List.map_cons, List.map_nil, hs, hx, hrun]
  exact h v' w' h2 h3 h4

theorem wpList_append_any {ops : Array Oper} {rest : List Oper} {o : Oper} {a : Act} {Q : Exit → Act → World → Prop} (hgd : o.guard = none) (s x : Operand) (t : TypeId)
    (ho : o.op = .call { callee := .builtin .append, args := #[s, x], argTypes := #[t, t] })
    (base : Nat) (e : TypeId) (i : TypeInfo) (z : Value) (size bytes : Nat) (ht : P.underlying t = some (.slice e)) (hi : P.info? e = some i) (hz : i.zero = some z)
    (hsize : i.size = size) (hby : i.bytes = bytes) (hzs : z.cells.size = size) (hsz : 0 < size)
    (v : Value) (n : Nat) (xs : List Value) (hs : a.eval s = v) (hown : w.ownsRow base e size v n xs)
    (B : Nat) (A : Option Addr) (m c : Nat) (news : List Value) (hx : a.eval x = .slice A m c) (hr : Reads w B size A m news) (h1 : ∀ u ∈ news, u.oneCell' = true)
    (h63 : n + m ≤ maxLen) (hfit : ∀ old, old < n + m → Builtin.nextslicecap (n + m) old * bytes ≤ 281474976710656) (hbase : base ≤ w.heap.size)
    (h : ∀ v' w', w'.ownsRow base e size v' (n + m) (xs ++ news) → w.grownBy w' v.ownBlock → (v'.ownBlock = v.ownBlock ∨ v'.ownBlock = some w.heap.size) → wpList P ops Q rest (a.put o.dst v') w') : wpList P ops Q (o :: rest) a w :=
  wpList_plain hgd fun _ hK => wp_append_any w s x t ho base e i z size bytes ht hi hz hsize hby hzs hsz v n xs hs hown B A m c news hx hr h1 h63 hfit hbase fun v' w' h2 h3 h4 => hK _ _ (h v' w' h2 h3 h4)

theorem step_append_any {ops : Array Oper} {o : Oper} {a : Act} {K : Act → World → Prop} {Q : Exit → Act → World → Prop} {E : Prop} (hgd : o.guard = none) (s x : Operand) (t : TypeId)
    (ho : o.op = .call { callee := .builtin .append, args := #[s, x], argTypes := #[t, t] })
    (base : Nat) (e : TypeId) (i : TypeInfo) (z : Value) (size bytes : Nat) (ht : P.underlying t = some (.slice e)) (hi : P.info? e = some i) (hz : i.zero = some z)
    (hsize : i.size = size) (hby : i.bytes = bytes) (hzs : z.cells.size = size) (hsz : 0 < size)
    (v : Value) (n : Nat) (xs : List Value) (hs : a.eval s = v) (hown : w.ownsRow base e size v n xs)
    (B : Nat) (A : Option Addr) (m c : Nat) (news : List Value) (hx : a.eval x = .slice A m c) (hr : Reads w B size A m news) (h1 : ∀ u ∈ news, u.oneCell' = true)
    (h63 : n + m ≤ maxLen) (hfit : ∀ old, old < n + m → Builtin.nextslicecap (n + m) old * bytes ≤ 281474976710656) (hbase : base ≤ w.heap.size)
    (h : ∀ v' w', w'.ownsRow base e size v' (n + m) (xs ++ news) → w.grownBy w' v.ownBlock → (v'.ownBlock = v.ownBlock ∨ v'.ownBlock = some w.heap.size) → K (a.put o.dst v') w') :
    if Region.wanted o (yielded ops a.tmps) = true then Oper.wp P o a w K Q else E := by
  have hw : Region.wanted o (yielded ops a.tmps) = true := by simp [Region.wanted, hgd]
  rw [if_pos hw]
  exact wp_append_any w s x t ho base e i z size bytes ht hi hz hsize hby hzs hsz v n xs hs hown B A m c news hx hr h1 h63 hfit hbase h
end
theorem blk5 {w : World} {g : Nat} {t : TypeId} {c0 c1 c2 c3 c4 : Value} (hk : Blk w g t #[c0, c1, c2, c3, c4]) :
    w.cell? ⟨g, 0, none⟩ = some c0 ∧ w.cell? ⟨g, 1, none⟩ = some c1 ∧ w.cell? ⟨g, 2, none⟩ = some c2 ∧ w.cell? ⟨g, 3, none⟩ = some c3 ∧ w.cell? ⟨g, 4, none⟩ = some c4 :=
  ⟨hk.cell 0, hk.cell 1, hk.cell 2, hk.cell 3, hk.cell 4⟩
theorem Blk.five {w : World} {g : Nat} {t : TypeId} {c0 c1 c2 c3 c4 : Value} (h : Blk w g t #[c0, c1, c2, c3, c4]) (d0 d1 d2 d3 d4 : Value) :
    Blk (((((w.setCell ⟨g, 0, none⟩ d0).setCell ⟨g, 1, none⟩ d1).setCell ⟨g, 2, none⟩ d2).setCell ⟨g, 3, none⟩ d3).setCell ⟨g, 4, none⟩ d4) g t #[d0, d1, d2, d3, d4] := by
  have := ((((h.set_ 0 d0).set_ 1 d1).set_ 2 d2).set_ 3 d3).set_ 4 d4
  simpa using this
theorem below_drewN {B : Nat} {w w' : World} (h : Below B w w') (n : Nat) : Below B w (w'.drewN n) := ⟨h.os, h.tape, h.output, h.size, h.block⟩
end Go.Proofs.Ytegeadkilolngaa

/- The contract of soft.open. -/
namespace Go.Proofs.Ytegeadkilolngaa
open Go.RowKit

structure Num where
  neg : Bool
  nan : Bool
  inf : Bool
  exp : Int
  sig : Nat
/-- a float taken apart -/
def openN (a : Nat) : Num :=
  if a / 8388608 % 256 = 255 then ⟨decide (2147483648 ≤ a), decide (a % 8388608 ≠ 0), decide (a % 8388608 = 0), 0, 0⟩
  else if a / 8388608 % 256 = 0 then ⟨decide (2147483648 ≤ a), false, false, -149, a % 8388608⟩
  else ⟨decide (2147483648 ≤ a), false, false, ((a / 8388608 % 256 : Nat) : Int) - 150, a % 8388608 + 8388608⟩
def numC (x : Num) : Array Value := #[.bool x.neg, .bool x.nan, .bool x.inf, .int .i64 x.exp, .int .u64 (x.sig : Int)]
theorem open_out (w : World) (tmps : Array Value) (g : Nat) (c0 c1 c2 c3 c4 : Value) (h2 : tmps.getD 2 undef = .pointer (some ⟨g, 0, none⟩)) (hk : Blk w g 59 #[c0, c1, c2, c3, c4]) :
    (results Try.f74 tmps).run Try.prog w = .ok (.agg #[c0, c1, c2, c3, c4]) w := by
  obtain ⟨k0, k1, k2, k3, k4⟩ := blk5 hk
  rw [Array.getD_eq_getD_getElem?] at h2
  simp [results, Try.results74, go_sem, h2, k0, k1, k2, k3, k4]
  try rfl
theorem and_u32 {x : Nat} (k : Nat) (hk : k ≤ 32) (h : x < 4294967296) : bits .and .u32 (x : Int) (2 ^ k - 1) = ((x % two k : Nat) : Int) := by
  rw [bits_mask .u32 32 (by decide) wraps_u32 k hk (x : Int) (by omega) (by omega), two_cast]
  simp

set_option maxRecDepth 100000 in
set_option maxHeartbeats 800000 in
theorem open_any (a : Nat) (w : World) (h : a < 4294967296) :
    Calls Try.prog 74 #[.int .u32 (a : Int)] w fun e w' => e = .returned (.agg (numC (openN a))) ∧ Below w.heap.size w w' := by
  have h1 : bits .and .u32 ((a : Int) / 8388608) 255 = ((a / 8388608 % 256 : Nat) : Int) := and_u32 (x := a / 8388608) 8 (by decide) (by omega)
  have h2 : bits .and .u32 (a : Int) 8388607 = ((a % 8388608 : Nat) : Int) := and_u32 23 (by decide) h
  have h3 : ((a : Int) / 2147483648 == 1) = decide (2147483648 ≤ a) := by
    by_cases hh : 2147483648 ≤ a
    · rw [decide_eq_true hh, beq_iff_eq]; omega
    · rw [decide_eq_false hh, beq_eq_false_iff_ne]; omega
  have HO : Hid (openN a = if a / 8388608 % 256 = 255 then ⟨decide (2147483648 ≤ a), decide (a % 8388608 ≠ 0), decide (a % 8388608 = 0), 0, 0⟩
    else if a / 8388608 % 256 = 0 then ⟨decide (2147483648 ≤ a), false, false, -149, a % 8388608⟩
    else ⟨decide (2147483648 ≤ a), false, false, ((a / 8388608 % 256 : Nat) : Int) - 150, a % 8388608 + 8388608⟩) := Lib.hid rfl
  have hE : a / 8388608 % 256 < 256 := by omega
  have hF : a % 8388608 < 8388608 := by omega
  generalize a / 8388608 % 256 = E at *
  generalize a % 8388608 = F at *
  generalize decide (2147483648 ≤ a) = nb at *
  generalize openN a = o at *
  by_cases e1 : E = 255
  · have HO2 : Hid (o = ⟨nb, decide (F ≠ 0), decide (F = 0), 0, 0⟩) := Lib.hid (by rw [HO.out, if_pos e1])
    clear HO
    subst e1
    by_cases f0 : F = 0
    · subst f0
      go_enter Try.func74, Try.ntmps74
      go_wp2
      refine bodyPost_ret (open_out _ _ w.heap.size _ _ _ _ _ rfl ((Blk.new w _ _).alloc _)) rfl ?_
      exact ⟨by rw [HO2.out]; simp [numC], ((Below.refl w.heap.size w).alloc (Nat.le_refl _) _).alloc (by simp) _⟩
    · have c1 : ((F : Int) != 0) = true := by simp; omega
      have c2 : ((F : Int) == 0) = false := by rw [beq_eq_false_iff_ne]; omega
      go_enter Try.func74, Try.ntmps74
      go_wp2
      refine bodyPost_ret (open_out _ _ w.heap.size _ _ _ _ _ rfl ((Blk.new w _ _).alloc _)) rfl ?_
      exact ⟨by rw [HO2.out]; simp [numC, f0], ((Below.refl w.heap.size w).alloc (Nat.le_refl _) _).alloc (by simp) _⟩
  · have c0 : ((E : Int) == 255) = false := by rw [beq_eq_false_iff_ne]; omega
    by_cases e0 : E = 0
    · have HO2 : Hid (o = ⟨nb, false, false, -149, F⟩) := Lib.hid (by rw [HO.out, if_neg e1, if_pos e0])
      clear HO
      subst e0
      go_enter Try.func74, Try.ntmps74
      go_wp2
      refine bodyPost_ret (open_out _ _ w.heap.size _ _ _ _ _ rfl ((Blk.new w _ _).alloc _)) rfl ?_
      exact ⟨by rw [HO2.out]; simp [numC], ((Below.refl w.heap.size w).alloc (Nat.le_refl _) _).alloc (by simp) _⟩
    · have HO2 : Hid (o = ⟨nb, false, false, (E : Int) - 150, F + 8388608⟩) := Lib.hid (by rw [HO.out, if_neg e1, if_neg e0])
      clear HO
      have c1 : ((E : Int) == 0) = false := by rw [beq_eq_false_iff_ne]; omega
      have c2 : bits .or .u64 (F : Int) 8388608 = ((F + 8388608 : Nat) : Int) := by
        have e : 8388608 ||| F = 8388608 + F := by
          have := Nat.two_pow_add_eq_or_of_lt (i := 23) (b := F) (by omega) 1
          simpa using this.symm
        have hc := bits_or_u64_nat F 8388608 (by omega) (by decide)
        rw [Nat.or_comm, e, Nat.add_comm] at hc
        exact hc
      go_enter Try.func74, Try.ntmps74
      go_wp2
      refine bodyPost_ret (open_out _ _ w.heap.size _ _ _ _ _ rfl ((Blk.new w _ _).alloc _)) rfl ?_
      exact ⟨by rw [HO2.out]; simp [numC], ((Below.refl w.heap.size w).alloc (Nat.le_refl _) _).alloc (by simp) _⟩
end Go.Proofs.Ytegeadkilolngaa

/- Contracts of soft's looks: Abs, NaN, Inf, Neg, nought, place, Less, Equal, Canon. -/
namespace Go.Proofs.Ytegeadkilolngaa
open Go.RowKit

def absP (a : Nat) : Nat := a % 2147483648
def negP (a : Nat) : Nat := if a < 2147483648 then a + 2147483648 else a - 2147483648
def nanP (a : Nat) : Bool := decide (2139095040 < a % 2147483648)
def infP (a : Nat) : Bool := decide (a % 2147483648 = 2139095040)
def placeP (a : Nat) : Int := if 2147483648 ≤ a then -((a % 2147483648 : Nat) : Int) else ((a % 2147483648 : Nat) : Int)
def lessP (a b : Nat) : Bool := !nanP a && !nanP b && decide (placeP a < placeP b)
def equalP (a b : Nat) : Bool := !nanP a && !nanP b && decide (placeP a = placeP b)
def canonP (a : Nat) : Nat := if nanP a = true then 2143289344 else a

theorem abs_bits {a : Nat} (h : a < 4294967296) : bits .andNot .u32 (a : Int) 2147483648 = ((a % 2147483648 : Nat) : Int) := by
  have := u32_andNot_nat a 2147483648 h (by decide)
  rw [show 4294967295 - 2147483648 = 2 ^ 31 - 1 from rfl, Nat.and_two_pow_sub_one_eq_mod] at this
  exact this
theorem flip_low {b : Nat} (h : b < 2147483648) : b ^^^ 2147483648 = b + 2147483648 := by
  apply Nat.eq_of_testBit_eq
  intro i
  rw [Nat.testBit_xor, show (2147483648 : Nat) = 2 ^ 31 from rfl, Nat.testBit_two_pow, Nat.add_comm b]
  by_cases h1 : i = 31
  · subst h1
    rw [Nat.testBit_two_pow_add_eq]
    simp
  · by_cases h2 : i < 31
    · rw [Nat.testBit_two_pow_add_gt h2, decide_eq_false (show ¬ 31 = i by omega)]
      simp
    · rw [Nat.testBit_lt_two_pow (x := b) (Nat.lt_of_lt_of_le h (Nat.pow_le_pow_right (n := 2) (by omega) (show 31 ≤ i by omega))),
        Nat.testBit_lt_two_pow (x := 2 ^ 31 + b) (Nat.lt_of_lt_of_le (show 2 ^ 31 + b < 2 ^ 32 by omega) (Nat.pow_le_pow_right (n := 2) (by omega) (show 32 ≤ i by omega))), decide_eq_false (show ¬ 31 = i by omega)]
      simp
theorem neg_bits {a : Nat} (h : a < 4294967296) : bits .xor .u32 (a : Int) 2147483648 = ((negP a : Nat) : Int) := by
  have := u32_xor_nat a 2147483648 h (by decide)
  have e : a ^^^ 2147483648 = negP a := by
    unfold negP
    split
    · rename_i hl; exact flip_low hl
    · have hb := flip_low (b := a - 2147483648) (by omega)
      rw [show a - 2147483648 + 2147483648 = a from by omega] at hb
      conv => lhs; rw [← hb]
      rw [Nat.xor_assoc, Nat.xor_self, Nat.xor_zero]
  rw [e] at this
  exact this
theorem abs_any (a : Nat) (w : World) (h : a < 4294967296) : Calls Try.prog 29 #[.int .u32 (a : Int)] w fun e w' => e = .returned (.int .u32 (absP a : Int)) ∧ w' = w := by
  have hb := abs_bits h
  go_enter Try.func29, Try.ntmps29
  go_wp2
  go_ret
  exact ⟨rfl, rfl⟩
theorem neg_any (a : Nat) (w : World) (h : a < 4294967296) : Calls Try.prog 40 #[.int .u32 (a : Int)] w fun e w' => e = .returned (.int .u32 (negP a : Int)) ∧ w' = w := by
  have hb := neg_bits h
  go_enter Try.func40, Try.ntmps40
  go_wp2
  go_ret
  exact ⟨rfl, rfl⟩
theorem nan_any (a : Nat) (w : World) (h : a < 4294967296) : Calls Try.prog 30 #[.int .u32 (a : Int)] w fun e w' => e = .returned (.bool (nanP a)) ∧ w' = w := by
  have hn : decide (2139095040 < ((absP a : Nat) : Int)) = nanP a := by unfold nanP absP; congr 1; apply propext; omega
  go_enter Try.func30, Try.ntmps30
  go_wp2_with (go_at_call 29; refine (abs_any a _ h).mono ?_; rintro e w' ⟨rfl, rfl⟩)
  go_ret
  exact ⟨by first | rfl | rw [← hn]; rfl, rfl⟩
theorem inf_any (a : Nat) (w : World) (h : a < 4294967296) : Calls Try.prog 45 #[.int .u32 (a : Int)] w fun e w' => e = .returned (.bool (infP a)) ∧ w' = w := by
  have hn : (((absP a : Nat) : Int) == 2139095040) = infP a := by
    unfold infP absP
    by_cases hh : a % 2147483648 = 2139095040
    · rw [decide_eq_true hh, beq_iff_eq]; omega
    · rw [decide_eq_false hh, beq_eq_false_iff_ne]; omega
  go_enter Try.func45, Try.ntmps45
  go_wp2_with (go_at_call 29; refine (abs_any a _ h).mono ?_; rintro e w' ⟨rfl, rfl⟩)
  go_ret
  exact ⟨by first | rfl | rw [← hn]; rfl, rfl⟩
theorem nought_any (way : Int) (w : World) : Calls Try.prog 75 #[.int .i64 way] w fun e w' => e = .returned (.int .u32 (sgn (way == 2) : Int)) ∧ w' = w := by
  go_enter Try.func75, Try.ntmps75
  go_wp2_with (go_at_call 76; refine (sign_any _ _).mono ?_; rintro e w' ⟨rfl, rfl⟩)
  go_ret
  exact ⟨rfl, rfl⟩
theorem place_any (a : Nat) (w : World) (h : a < 4294967296) : Calls Try.prog 57 #[.int .u32 (a : Int)] w fun e w' => e = .returned (.int .i64 (placeP a)) ∧ w' = w := by
  have ha : absP a < 2147483648 := by unfold absP; omega
  by_cases hh : 2147483648 ≤ a
  · have h3 : (a : Int) / 2147483648 = 1 := by omega
    have hp : placeP a = -((absP a : Nat) : Int) := by unfold placeP absP; rw [if_pos hh]
    go_enter Try.func57, Try.ntmps57
    go_wp2_with (go_at_call 29; refine (abs_any a _ h).mono ?_; rintro e w' ⟨rfl, rfl⟩)
    go_ret
    exact ⟨by rw [hp]; rfl, rfl⟩
  · have h3 : (a : Int) / 2147483648 = 0 := by omega
    have hp : placeP a = ((absP a : Nat) : Int) := by unfold placeP absP; rw [if_neg hh]
    go_enter Try.func57, Try.ntmps57
    go_wp2_with (go_at_call 29; refine (abs_any a _ h).mono ?_; rintro e w' ⟨rfl, rfl⟩)
    go_ret
    exact ⟨by rw [hp]; rfl, rfl⟩
theorem nan_at {a : Nat} {b : Bool} {w : World} (h : Hid (a < 4294967296)) (hb : Hid (nanP a = b)) : Calls Try.prog 30 #[.int .u32 (a : Int)] w fun e w' => e = .returned (.bool b) ∧ w' = w := by
  have := nan_any a w h.out
  rw [hb.out] at this
  exact this
theorem place_at {a : Nat} {b : Int} {w : World} (h : Hid (a < 4294967296)) (hb : Hid (placeP a = b)) : Calls Try.prog 57 #[.int .u32 (a : Int)] w fun e w' => e = .returned (.int .i64 b) ∧ w' = w := by
  have := place_any a w h.out
  rw [hb.out] at this
  exact this
set_option maxRecDepth 100000 in
theorem less_any (a b : Nat) (w : World) (h : a < 4294967296) (h' : b < 4294967296) : Calls Try.prog 31 #[.int .u32 (a : Int), .int .u32 (b : Int)] w fun e w' => e = .returned (.bool (lessP a b)) ∧ w' = w := by
  have HA := Lib.hid h
  have HB := Lib.hid h'
  clear h h'
  obtain ⟨pa, hpa⟩ : ∃ p, placeP a = p := ⟨_, rfl⟩
  obtain ⟨pb, hpb⟩ : ∃ p, placeP b = p := ⟨_, rfl⟩
  have HPA := Lib.hid hpa
  have HPB := Lib.hid hpb
  clear hpa hpb
  cases ha : nanP a
  · have HNA := Lib.hid ha
    clear ha
    cases hb : nanP b
    · have HNB := Lib.hid hb
      clear hb
      go_enter Try.func31, Try.ntmps31
      go_wp2_with fail
      refine (nan_at HA HNA).mono ?_
      rintro e w' ⟨rfl, rfl⟩
      go_wp2_with fail
      refine (nan_at HB HNB).mono ?_
      rintro e w' ⟨rfl, rfl⟩
      go_wp2_with fail
      refine (place_at HA HPA).mono ?_
      rintro e w' ⟨rfl, rfl⟩
      go_wp2_with fail
      refine (place_at HB HPB).mono ?_
      rintro e w' ⟨rfl, rfl⟩
      go_wp2
      go_ret
      exact ⟨by rw [show lessP a b = decide (pa < pb) from by unfold lessP; rw [HNA.out, HNB.out, HPA.out, HPB.out]; rfl]; rfl, rfl⟩
    · have HNB := Lib.hid hb
      clear hb
      go_enter Try.func31, Try.ntmps31
      go_wp2_with fail
      refine (nan_at HA HNA).mono ?_
      rintro e w' ⟨rfl, rfl⟩
      go_wp2_with fail
      refine (nan_at HB HNB).mono ?_
      rintro e w' ⟨rfl, rfl⟩
      go_wp2
      go_ret
      exact ⟨by rw [show lessP a b = false from by unfold lessP; rw [HNA.out, HNB.out]; rfl]; rfl, rfl⟩
  · have HNA := Lib.hid ha
    clear ha
    go_enter Try.func31, Try.ntmps31
    go_wp2_with fail
    refine (nan_at HA HNA).mono ?_
    rintro e w' ⟨rfl, rfl⟩
    go_wp2
    go_ret
    exact ⟨by rw [show lessP a b = false from by unfold lessP; rw [HNA.out]; rfl]; rfl, rfl⟩
set_option maxRecDepth 100000 in
theorem equal_any (a b : Nat) (w : World) (h : a < 4294967296) (h' : b < 4294967296) : Calls Try.prog 69 #[.int .u32 (a : Int), .int .u32 (b : Int)] w fun e w' => e = .returned (.bool (equalP a b)) ∧ w' = w := by
  have HA := Lib.hid h
  have HB := Lib.hid h'
  clear h h'
  obtain ⟨pa, hpa⟩ : ∃ p, placeP a = p := ⟨_, rfl⟩
  obtain ⟨pb, hpb⟩ : ∃ p, placeP b = p := ⟨_, rfl⟩
  have HPA := Lib.hid hpa
  have HPB := Lib.hid hpb
  clear hpa hpb
  cases ha : nanP a
  · have HNA := Lib.hid ha
    clear ha
    cases hb : nanP b
    · have HNB := Lib.hid hb
      clear hb
      go_enter Try.func69, Try.ntmps69
      go_wp2_with fail
      refine (nan_at HA HNA).mono ?_
      rintro e w' ⟨rfl, rfl⟩
      go_wp2_with fail
      refine (nan_at HB HNB).mono ?_
      rintro e w' ⟨rfl, rfl⟩
      go_wp2_with fail
      refine (place_at HA HPA).mono ?_
      rintro e w' ⟨rfl, rfl⟩
      go_wp2_with fail
      refine (place_at HB HPB).mono ?_
      rintro e w' ⟨rfl, rfl⟩
      go_wp2
      go_ret
      exact ⟨by rw [show equalP a b = decide (pa = pb) from by unfold equalP; rw [HNA.out, HNB.out, HPA.out, HPB.out]; rfl]; rfl, rfl⟩
    · have HNB := Lib.hid hb
      clear hb
      go_enter Try.func69, Try.ntmps69
      go_wp2_with fail
      refine (nan_at HA HNA).mono ?_
      rintro e w' ⟨rfl, rfl⟩
      go_wp2_with fail
      refine (nan_at HB HNB).mono ?_
      rintro e w' ⟨rfl, rfl⟩
      go_wp2
      go_ret
      exact ⟨by rw [show equalP a b = false from by unfold equalP; rw [HNA.out, HNB.out]; rfl]; rfl, rfl⟩
  · have HNA := Lib.hid ha
    clear ha
    go_enter Try.func69, Try.ntmps69
    go_wp2_with fail
    refine (nan_at HA HNA).mono ?_
    rintro e w' ⟨rfl, rfl⟩
    go_wp2
    go_ret
    exact ⟨by rw [show equalP a b = false from by unfold equalP; rw [HNA.out]; rfl]; rfl, rfl⟩
end Go.Proofs.Ytegeadkilolngaa

/- The contract of soft.MulBy. -/
namespace Go.Proofs.Ytegeadkilolngaa
open Go.RowKit

theorem open_at {a : Nat} {xn xnan xinf : Bool} {xe : Int} {xs : Nat} {w : World} (h : Hid (a < 4294967296)) (hx : Hid (openN a = ⟨xn, xnan, xinf, xe, xs⟩)) :
    Calls Try.prog 74 #[.int .u32 (a : Int)] w fun e w' => e = .returned (.agg #[.bool xn, .bool xnan, .bool xinf, .int .i64 xe, .int .u64 (xs : Int)]) ∧ Below w.heap.size w w' := by
  have := open_any a w h.out
  rw [hx.out] at this
  exact this
theorem openN_ok {a : Nat} {xn xnan xinf : Bool} {xe : Int} {xs : Nat} (hx : openN a = ⟨xn, xnan, xinf, xe, xs⟩) : xs < 16777216 ∧ -149 ≤ xe ∧ xe ≤ 104 := by
  unfold openN at hx
  split at hx
  · injection hx with h1 h2 h3 h4 h5; subst h4 h5; omega
  · split at hx
    · injection hx with h1 h2 h3 h4 h5; subst h4 h5; omega
    · injection hx with h1 h2 h3 h4 h5; subst h4 h5; omega
theorem round_at {way : Int} {neg : Bool} {exp : Int} {sig : Int} {s : Nat} {more : Bool} {w : World} {r : Nat} (hs : sig = (s : Int)) (hs64 : s < 18446744073709551616) (he : -9223372036854775808 ≤ exp ∧ exp ≤ 9223372036854775807) (hr : Hid (roundP way neg exp s more = r)) :
    Calls Try.prog 67 #[.int .i64 way, .bool neg, .int .i64 exp, .int .u64 sig, .bool more] w fun e w' => e = .returned (.int .u32 (r : Int)) ∧ w' = w := by
  subst hs
  have := round_any way neg exp s more w hs64 he
  rw [hr.out] at this
  exact this
def mulN (way : Int) (x y : Num) : Nat :=
  if (x.nan || y.nan || (x.inf && !y.inf && y.sig == 0) || (y.inf && !x.inf && x.sig == 0)) = true then 2143289344
  else if (x.inf || y.inf) = true then sgn (x.neg != y.neg) + 2139095040
  else roundP way (x.neg != y.neg) (x.exp + y.exp) (x.sig * y.sig) false
def mulP (way : Int) (a b : Nat) : Nat := mulN way (openN a) (openN b)

set_option maxRecDepth 100000 in
set_option maxHeartbeats 1600000 in
theorem mul_any (way : Int) (a b : Nat) (w : World) (h : Hid (a < 4294967296)) (h' : Hid (b < 4294967296)) :
    Calls Try.prog 60 #[.int .i64 way, .int .u32 (a : Int), .int .u32 (b : Int)] w fun e w' => e = .returned (.int .u32 (mulP way a b : Int)) ∧ Below w.heap.size w w' := by
  obtain ⟨xn, xnan, xinf, xe, xs, hx⟩ : ∃ xn xnan xinf xe xs, openN a = ⟨xn, xnan, xinf, xe, xs⟩ := ⟨_, _, _, _, _, rfl⟩
  obtain ⟨yn, ynan, yinf, ye, ys, hy⟩ : ∃ yn ynan yinf ye ys, openN b = ⟨yn, ynan, yinf, ye, ys⟩ := ⟨_, _, _, _, _, rfl⟩
  obtain ⟨hx1, hx2, hx3⟩ := openN_ok hx
  obtain ⟨hy1, hy2, hy3⟩ := openN_ok hy
  have HM : Hid (mulP way a b = mulN way ⟨xn, xnan, xinf, xe, xs⟩ ⟨yn, ynan, yinf, ye, ys⟩) := Lib.hid (by unfold mulP; rw [hx, hy])
  have HX := Lib.hid hx
  have HY := Lib.hid hy
  clear hx hy
  generalize mulP way a b = r at *
  cases xnan
  · cases ynan
    · have hpr : xs * ys < 281474976710656 := by
        have h1 := Nat.mul_le_mul (show xs ≤ 16777215 by omega) (show ys ≤ 16777215 by omega)
        omega
      cases xinf
      · cases yinf
        · have HR : Hid (roundP way (xn != yn) (xe + ye) (xs * ys) false = r) := Lib.hid (by rw [HM.out]; simp [mulN])
          clear HM
          go_enter Try.func60, Try.ntmps60
          go_wp2_with fail
          refine (open_at h HX).mono ?_
          rintro e W1 ⟨rfl, hB1⟩
          go_wp2_with fail
          refine (open_at h' HY).mono ?_
          rintro e W2 ⟨rfl, hB2⟩
          have hB2' := hB1.trans (hB2.mono hB1.size)
          have hz2 := hB2'.size
          clear hB1 hB2
          go_wp2_with fail
          refine (round_at (by first | rfl | simp) (Nat.lt_trans hpr (by decide)) (by omega) HR).mono ?_
          rintro e w' ⟨rfl, rfl⟩
          go_wp2
          go_ret
          exact ⟨rfl, (hB2'.alloc hz2 _).alloc (by simp; omega) _⟩
        · by_cases hz : xs = 0
          · subst hz
            have HR : Hid (r = 2143289344) := Lib.hid (by rw [HM.out]; simp [mulN])
            go_enter Try.func60, Try.ntmps60
            go_wp2_with fail
            refine (open_at h HX).mono ?_
            rintro e W1 ⟨rfl, hB1⟩
            go_wp2_with fail
            refine (open_at h' HY).mono ?_
            rintro e W2 ⟨rfl, hB2⟩
            have hB2' := hB1.trans (hB2.mono hB1.size)
            have hz2 := hB2'.size
            clear hB1 hB2
            go_wp2
            go_ret
            exact ⟨by rw [HR.out]; rfl, (hB2'.alloc hz2 _).alloc (by simp; omega) _⟩
          · have hz' : ((xs : Int) == 0) = false := by rw [beq_eq_false_iff_ne]; omega
            have HR : Hid (r = sgn (xn != yn) + 2139095040) := Lib.hid (by rw [HM.out]; simp [mulN, hz])
            go_enter Try.func60, Try.ntmps60
            go_wp2_with fail
            refine (open_at h HX).mono ?_
            rintro e W1 ⟨rfl, hB1⟩
            go_wp2_with fail
            refine (open_at h' HY).mono ?_
            rintro e W2 ⟨rfl, hB2⟩
            have hB2' := hB1.trans (hB2.mono hB1.size)
            have hz2 := hB2'.size
            clear hB1 hB2
            go_wp2_with fail
            refine (sign_any _ _).mono ?_
            rintro e w' ⟨rfl, rfl⟩
            go_wp2
            go_ret
            exact ⟨by rw [HR.out]; exact congrArg Ending.returned (congrArg (Value.int .u32) ((or_sign (xn != yn) (by decide) (by decide)).trans (by omega))), (hB2'.alloc hz2 _).alloc (by simp; omega) _⟩
      · cases yinf
        · by_cases hz : ys = 0
          · subst hz
            have HR : Hid (r = 2143289344) := Lib.hid (by rw [HM.out]; simp [mulN])
            go_enter Try.func60, Try.ntmps60
            go_wp2_with fail
            refine (open_at h HX).mono ?_
            rintro e W1 ⟨rfl, hB1⟩
            go_wp2_with fail
            refine (open_at h' HY).mono ?_
            rintro e W2 ⟨rfl, hB2⟩
            have hB2' := hB1.trans (hB2.mono hB1.size)
            have hz2 := hB2'.size
            clear hB1 hB2
            go_wp2
            go_ret
            exact ⟨by rw [HR.out]; rfl, (hB2'.alloc hz2 _).alloc (by simp; omega) _⟩
          · have hz' : ((ys : Int) == 0) = false := by rw [beq_eq_false_iff_ne]; omega
            have HR : Hid (r = sgn (xn != yn) + 2139095040) := Lib.hid (by rw [HM.out]; simp [mulN, hz])
            go_enter Try.func60, Try.ntmps60
            go_wp2_with fail
            refine (open_at h HX).mono ?_
            rintro e W1 ⟨rfl, hB1⟩
            go_wp2_with fail
            refine (open_at h' HY).mono ?_
            rintro e W2 ⟨rfl, hB2⟩
            have hB2' := hB1.trans (hB2.mono hB1.size)
            have hz2 := hB2'.size
            clear hB1 hB2
            go_wp2_with fail
            refine (sign_any _ _).mono ?_
            rintro e w' ⟨rfl, rfl⟩
            go_wp2
            go_ret
            exact ⟨by rw [HR.out]; exact congrArg Ending.returned (congrArg (Value.int .u32) ((or_sign (xn != yn) (by decide) (by decide)).trans (by omega))), (hB2'.alloc hz2 _).alloc (by simp; omega) _⟩
        · have HR : Hid (r = sgn (xn != yn) + 2139095040) := Lib.hid (by rw [HM.out]; simp [mulN])
          go_enter Try.func60, Try.ntmps60
          go_wp2_with fail
          refine (open_at h HX).mono ?_
          rintro e W1 ⟨rfl, hB1⟩
          go_wp2_with fail
          refine (open_at h' HY).mono ?_
          rintro e W2 ⟨rfl, hB2⟩
          have hB2' := hB1.trans (hB2.mono hB1.size)
          have hz2 := hB2'.size
          clear hB1 hB2
          go_wp2_with fail
          refine (sign_any _ _).mono ?_
          rintro e w' ⟨rfl, rfl⟩
          go_wp2
          go_ret
          exact ⟨by rw [HR.out]; exact congrArg Ending.returned (congrArg (Value.int .u32) ((or_sign (xn != yn) (by decide) (by decide)).trans (by omega))), (hB2'.alloc hz2 _).alloc (by simp; omega) _⟩
    · have HR : Hid (r = 2143289344) := Lib.hid (by rw [HM.out]; simp [mulN])
      go_enter Try.func60, Try.ntmps60
      go_wp2_with fail
      refine (open_at h HX).mono ?_
      rintro e W1 ⟨rfl, hB1⟩
      go_wp2_with fail
      refine (open_at h' HY).mono ?_
      rintro e W2 ⟨rfl, hB2⟩
      have hB2' := hB1.trans (hB2.mono hB1.size)
      have hz2 := hB2'.size
      clear hB1 hB2
      go_wp2
      go_ret
      exact ⟨by rw [HR.out]; rfl, (hB2'.alloc hz2 _).alloc (by simp; omega) _⟩
  · have HR : Hid (r = 2143289344) := Lib.hid (by rw [HM.out]; simp [mulN])
    go_enter Try.func60, Try.ntmps60
    go_wp2_with fail
    refine (open_at h HX).mono ?_
    rintro e W1 ⟨rfl, hB1⟩
    go_wp2_with fail
    refine (open_at h' HY).mono ?_
    rintro e W2 ⟨rfl, hB2⟩
    have hB2' := hB1.trans (hB2.mono hB1.size)
    have hz2 := hB2'.size
    clear hB1 hB2
    go_wp2
    go_ret
    exact ⟨by rw [HR.out]; rfl, (hB2'.alloc hz2 _).alloc (by simp; omega) _⟩
end Go.Proofs.Ytegeadkilolngaa

/- The contract of soft's full. -/
namespace Go.Proofs.Ytegeadkilolngaa
open Go.RowKit

theorem full_out (w : World) (tmps : Array Value) (g : Nat) (c0 c1 c2 c3 c4 : Value) (h2 : tmps.getD 2 undef = .pointer (some ⟨g, 0, none⟩)) (hk : Blk w g 59 #[c0, c1, c2, c3, c4]) :
    (results Try.f77 tmps).run Try.prog w = .ok (.agg #[c0, c1, c2, c3, c4]) w := by
  obtain ⟨k0, k1, k2, k3, k4⟩ := blk5 hk
  rw [Array.getD_eq_getD_getElem?] at h2
  simp [results, Try.results77, go_sem, h2, k0, k1, k2, k3, k4]
  try rfl
theorem full_sig {s : Nat} (h0 : 0 < s) (h : s < 16777216) : 8388608 ≤ s * two (24 - blen s) ∧ s * two (24 - blen s) < 16777216 ∧ blen s ≤ 24 := by
  have hn1 := blen_le h0
  have hn2 := blen_lt s
  have hn4 := blen_pos h0
  have h24 : blen s ≤ 24 := by
    by_cases hc : blen s ≤ 24
    · exact hc
    · have := two_le (show 24 ≤ blen s - 1 by omega)
      rw [two_24] at this; omega
  refine ⟨?_, ?_, h24⟩
  · have h1 : two (blen s - 1) * two (24 - blen s) ≤ s * two (24 - blen s) := Nat.mul_le_mul_right _ hn1
    rw [← two_add, show blen s - 1 + (24 - blen s) = 23 from by omega, two_23] at h1
    exact h1
  · have h1 : s * two (24 - blen s) < two (blen s) * two (24 - blen s) := Nat.mul_lt_mul_of_pos_right hn2 (two_pos _)
    rw [← two_add, show blen s + (24 - blen s) = 24 from by omega, two_24] at h1
    exact h1
set_option maxRecDepth 100000 in
set_option maxHeartbeats 800000 in
theorem full_any {xn xnan xinf : Bool} {xe : Int} {xs k m : Nat} (w : World) (h0 : 0 < xs) (h : xs < 16777216) (he : -149 ≤ xe ∧ xe ≤ 104) (hk : Hid (24 - blen xs = k)) (hm : Hid (xs * two k = m)) :
    Calls Try.prog 77 #[.agg #[.bool xn, .bool xnan, .bool xinf, .int .i64 xe, .int .u64 (xs : Int)]] w fun e w' => e = .returned (.agg #[.bool xn, .bool xnan, .bool xinf, .int .i64 (xe - k), .int .u64 (m : Int)]) ∧ Below w.heap.size w w' := by
  obtain ⟨f1, f2, f3⟩ := full_sig h0 h
  have hk' := hk.out
  have hm' := hm.out
  rw [hk', hm'] at f1 f2
  have hkk : (24 : Int) - (blen xs : Int) = (k : Int) := by omega
  have hk24 : k ≤ 24 := by omega
  have hsh : IntKind.u64.wrap ((xs : Int) * 2 ^ k) = (m : Int) := by
    rw [two_cast, ← Int.natCast_mul, hm', wrap64_nat (by omega)]
  clear hk' hm' f3
  go_enter Try.func77, Try.ntmps77
  go_wp2_with (go_at_call 80; refine (len_any xs _ (by omega)).mono ?_; rintro e w' ⟨rfl, rfl⟩)
  refine bodyPost_ret (full_out _ _ (w.heap.size + 1) _ _ _ _ _ rfl (by have := Blk.new (w.alloc (.cells #[.bool xn, .bool xnan, .bool xinf, .int .i64 (xe - k), .int .u64 (m : Int)] 59)) 59 #[.bool xn, .bool xnan, .bool xinf, .int .i64 (xe - k), .int .u64 (m : Int)]; simpa using this)) rfl ?_
  exact ⟨rfl, ((Below.refl w.heap.size w).alloc (Nat.le_refl _) _).alloc (by simp) _⟩
end Go.Proofs.Ytegeadkilolngaa

/- The contract of soft.AddBy. -/
namespace Go.Proofs.Ytegeadkilolngaa
open Go.RowKit

/-- two numbers, the one of the greater exponent ahead -/
def coreN (way : Int) (x y : Num) : Nat :=
  let d := (x.exp - y.exp).toNat
  if d ≤ 38 then
    let high := x.sig * two d
    if x.neg = y.neg then roundP way x.neg y.exp (high + y.sig) false
    else if high = y.sig then sgn (way == 2)
    else if y.sig < high then roundP way x.neg y.exp (high - y.sig) false
    else roundP way y.neg y.exp (y.sig - high) false
  else
    let high := x.sig * 274877906944
    let low := y.sig / two (d - 38)
    if x.neg = y.neg then roundP way x.neg (x.exp - 38) (high + low) (decide (y.sig % two (d - 38) ≠ 0))
    else if y.sig % two (d - 38) ≠ 0 then roundP way x.neg (x.exp - 38) (high - low - 1) true
    else roundP way x.neg (x.exp - 38) (high - low) false
def addN (way : Int) (a b : Nat) (x y : Num) : Nat :=
  if (x.nan || y.nan || (x.inf && y.inf && x.neg != y.neg)) = true then 2143289344
  else if x.inf = true then a else if y.inf = true then b
  else if x.sig = 0 ∧ y.sig = 0 then (if a = b then a else sgn (way == 2))
  else if x.exp < y.exp then coreN way y x else coreN way x y
def addP (way : Int) (a b : Nat) : Nat := addN way a b (openN a) (openN b)
theorem open_norm {a : Nat} {xn xnan xinf : Bool} {xe : Int} {xs : Nat} (hx : openN a = ⟨xn, xnan, xinf, xe, xs⟩) (hnan : xnan = false) (hinf : xinf = false) (h : -149 < xe) : 8388608 ≤ xs := by
  unfold openN at hx
  split at hx
  · injection hx with h1 h2 h3 h4 h5
    subst h2 h3
    by_cases hf : a % 8388608 = 0
    · simp [hf] at hinf
    · simp [hf] at hnan
  · split at hx
    · injection hx with h1 h2 h3 h4 h5; omega
    · injection hx with h1 h2 h3 h4 h5; omega

theorem two_min {y k : Nat} (h : y < 16777216) : y / two (min k 64) = y / two k ∧ (y / two k * two (min k 64) = y ↔ y % two k = 0) := by
  by_cases hk : k ≤ 64
  · rw [Nat.min_eq_left hk]
    have h1 := Nat.div_add_mod y (two k)
    rw [Nat.mul_comm] at h1
    exact ⟨rfl, by omega⟩
  · rw [Nat.min_eq_right (by omega)]
    have h2 := two_le (show 64 ≤ k by omega)
    rw [two_64] at h2
    have e1 : y / two k = 0 := Nat.div_eq_of_lt (by omega)
    have e2 : y / two 64 = 0 := Nat.div_eq_of_lt (by rw [two_64]; omega)
    have e3 : y % two k = y := Nat.mod_eq_of_lt (by omega)
    rw [e1, e2, e3]
    omega
theorem shr_low {y k : Nat} (h : y < 16777216) : (y : Int) / 2 ^ min k 64 = ((y / two k : Nat) : Int) := by
  rw [quo_cast, (two_min h).1]
theorem shr_lost {y k : Nat} (h : y < 16777216) : (IntKind.u64.wrap (((y / two k : Nat) : Int) * 2 ^ min k 64) != (y : Int)) = decide (y % two k ≠ 0) := by
  have h1 : y / two k * two (min k 64) ≤ y := by
    rw [← (two_min (k := k) h).1]
    exact Nat.div_mul_le_self y _
  rw [two_cast, ← Int.natCast_mul, wrap64_nat (by omega)]
  have h2 := (two_min (k := k) h).2
  by_cases hh : y % two k = 0
  · rw [decide_eq_false (by simpa using hh)]
    rw [bne_eq_false_iff_eq]
    have := h2.2 hh
    omega
  · rw [decide_eq_true (by simpa using hh)]
    rw [bne_iff_ne]
    intro e
    exact hh (h2.1 (by omega))
set_option maxRecDepth 100000 in
set_option maxHeartbeats 4000000 in
theorem add_any (way : Int) (a b : Nat) (w : World) (h : Hid (a < 4294967296)) (h' : Hid (b < 4294967296)) :
    Calls Try.prog 58 #[.int .i64 way, .int .u32 (a : Int), .int .u32 (b : Int)] w fun e w' => e = .returned (.int .u32 (addP way a b : Int)) ∧ Below w.heap.size w w' := by
  obtain ⟨xn, xnan, xinf, xe, xs, hx⟩ : ∃ xn xnan xinf xe xs, openN a = ⟨xn, xnan, xinf, xe, xs⟩ := ⟨_, _, _, _, _, rfl⟩
  obtain ⟨yn, ynan, yinf, ye, ys, hy⟩ : ∃ yn ynan yinf ye ys, openN b = ⟨yn, ynan, yinf, ye, ys⟩ := ⟨_, _, _, _, _, rfl⟩
  obtain ⟨hx1, hx2, hx3⟩ := openN_ok hx
  obtain ⟨hy1, hy2, hy3⟩ := openN_ok hy
  have hxn := open_norm hx
  have hyn := open_norm hy
  have HM : Hid (addP way a b = addN way a b ⟨xn, xnan, xinf, xe, xs⟩ ⟨yn, ynan, yinf, ye, ys⟩) := Lib.hid (by unfold addP; rw [hx, hy])
  have HX := Lib.hid hx
  have HY := Lib.hid hy
  clear hx hy
  generalize addP way a b = r at *
  cases xnan
  · cases ynan
    · cases xinf
      · cases yinf
        · have HXN := Lib.hid (hxn rfl rfl)
          have HYN := Lib.hid (hyn rfl rfl)
          clear hxn hyn
          by_cases hz : xs = 0 ∧ ys = 0
          · obtain ⟨rfl, rfl⟩ := hz
            by_cases hab : a = b
            · subst hab
              have hq : ((a : Int) == (a : Int)) = true := by simp
              have HR : Hid (r = a) := Lib.hid (by rw [HM.out]; simp [addN])
              go_enter Try.func58, Try.ntmps58
              go_wp2_with fail
              refine (open_at h HX).mono ?_
              rintro e W1 ⟨rfl, hB1⟩
              go_wp2_with fail
              refine (open_at h' HY).mono ?_
              rintro e W2 ⟨rfl, hB2⟩
              have hB2' := hB1.trans (hB2.mono hB1.size)
              have hz2 := hB2'.size
              clear hB1 hB2
              go_wp2
              go_ret
              exact ⟨by rw [HR.out]; rfl, (hB2'.alloc hz2 _).alloc (by simp; omega) _⟩
            · have hq : ((a : Int) == (b : Int)) = false := by rw [beq_eq_false_iff_ne]; omega
              have HR : Hid (r = sgn (way == 2)) := Lib.hid (by rw [HM.out]; simp [addN, hab])
              go_enter Try.func58, Try.ntmps58
              go_wp2_with fail
              refine (open_at h HX).mono ?_
              rintro e W1 ⟨rfl, hB1⟩
              go_wp2_with fail
              refine (open_at h' HY).mono ?_
              rintro e W2 ⟨rfl, hB2⟩
              have hB2' := hB1.trans (hB2.mono hB1.size)
              have hz2 := hB2'.size
              clear hB1 hB2
              go_wp2_with fail
              refine (nought_any _ _).mono ?_
              rintro e w' ⟨rfl, rfl⟩
              go_wp2
              go_ret
              exact ⟨by rw [HR.out]; rfl, (hB2'.alloc hz2 _).alloc (by simp; omega) _⟩
          · have hzx : ((xs : Int) == 0) = decide (xs = 0) := by
              by_cases e : xs = 0
              · rw [decide_eq_true e, beq_iff_eq]; omega
              · rw [decide_eq_false e, beq_eq_false_iff_ne]; omega
            have hzy : ((ys : Int) == 0) = decide (ys = 0) := by
              by_cases e : ys = 0
              · rw [decide_eq_true e, beq_iff_eq]; omega
              · rw [decide_eq_false e, beq_eq_false_iff_ne]; omega
            have HR : Hid (r = if xe < ye then coreN way ⟨yn, false, false, ye, ys⟩ ⟨xn, false, false, xe, xs⟩ else coreN way ⟨xn, false, false, xe, xs⟩ ⟨yn, false, false, ye, ys⟩) := Lib.hid (by rw [HM.out]; simp [addN, hz])
            clear HM
            go_enter Try.func58, Try.ntmps58
            go_wp2_with fail
            refine (open_at h HX).mono ?_
            rintro e W1 ⟨rfl, hB1⟩
            go_wp2_with fail
            refine (open_at h' HY).mono ?_
            rintro e W2 ⟨rfl, hB2⟩
            have hB2' := hB1.trans (hB2.mono hB1.size)
            have hz2 := hB2'.size
            clear hB1 hB2
            clear HX HY
            go_upto_block 0 with fail
            go_cut [] from 18 to 62 (fun wx => wx = (W2.alloc (.cells #[.bool xn, .bool false, .bool false, .int .i64 xe, .int .u64 (xs : Int)] 59)).alloc (.cells #[.bool yn, .bool false, .bool false, .int .i64 ye, .int .u64 (ys : Int)] 59))
            case first =>
              have hor : (decide (xs = 0) && decide (ys = 0)) = false := by
                rw [Bool.and_eq_false_iff]
                by_cases e : xs = 0
                · right; exact decide_eq_false (fun e2 => hz ⟨e, e2⟩)
                · left; exact decide_eq_false e
              cases hxz : decide (xs = 0) <;> cases hyz : decide (ys = 0) <;> rw [hxz, hyz] at hor
              all_goals first
                | (cases hor; done)
                | (go_wp2
                   go_meet
                   case rel => exact rfl)
            case rest =>
              obtain ⟨X, Y, HXY, hX1, hY1, hle, hnm, hb⟩ : ∃ X Y : Num, Hid ((X, Y) = if xe < ye then (⟨yn, false, false, ye, ys⟩, ⟨xn, false, false, xe, xs⟩) else (⟨xn, false, false, xe, xs⟩, ⟨yn, false, false, ye, ys⟩)) ∧ X.sig < 16777216 ∧ Y.sig < 16777216 ∧ Y.exp ≤ X.exp ∧ (-149 < X.exp → 8388608 ≤ X.sig) ∧ (-149 ≤ Y.exp ∧ X.exp ≤ 104) ∧ Hid (r = coreN way X Y) := by
                by_cases hlt : xe < ye
                · exact ⟨_, _, Lib.hid (by rw [if_pos hlt]), hy1, hx1, by show xe ≤ ye; omega, HYN.out, ⟨hx2, hy3⟩, Lib.hid (by rw [HR.out, if_pos hlt])⟩
                · exact ⟨_, _, Lib.hid (by rw [if_neg hlt]), hx1, hy1, by show ye ≤ xe; omega, HXN.out, ⟨hy2, hx3⟩, Lib.hid (by rw [HR.out, if_neg hlt])⟩
              obtain ⟨hb, HC⟩ := hb
              clear HR
              subst hcut
              have hB3 := (hB2'.alloc hz2 (.cells #[.bool X.neg, .bool false, .bool false, .int .i64 X.exp, .int .u64 (X.sig : Int)] 59)).alloc (by simp; omega) (.cells #[.bool Y.neg, .bool false, .bool false, .int .i64 Y.exp, .int .u64 (Y.sig : Int)] 59)
              go_upto_if 67 with fail
              go_cut [] from 68 to 69 (fun wx => wx = (W2.alloc (.cells #[.bool X.neg, .bool false, .bool false, .int .i64 X.exp, .int .u64 (X.sig : Int)] 59)).alloc (.cells #[.bool Y.neg, .bool false, .bool false, .int .i64 Y.exp, .int .u64 (Y.sig : Int)] 59))
              case first =>
                by_cases hlt : xe < ye
                · obtain ⟨rfl, rfl⟩ := Prod.mk.inj (HXY.out.trans (if_pos hlt))
                  clear HXY
                  dsimp only at *
                  go_wp2
                  go_meet
                  case rel => exact rfl
                · obtain ⟨rfl, rfl⟩ := Prod.mk.inj (HXY.out.trans (if_neg hlt))
                  clear HXY
                  dsimp only at *
                  go_wp2
                  go_meet
                  case rel => exact rfl
              case rest =>
                subst hcut
                clear HXY hz hzx hzy hx1 hx2 hx3 hy1 hy2 hy3 HXN HYN h h'
                obtain ⟨Xn, Xnan, Xinf, Xe, Xs⟩ := X
                obtain ⟨Yn, Ynan, Yinf, Ye, Ys⟩ := Y
                dsimp only at *
                obtain ⟨d, hd⟩ : ∃ d : Nat, Xe - Ye = (d : Int) := ⟨(Xe - Ye).toNat, by omega⟩
                by_cases h38 : d ≤ 38
                · have h2 := two_le h38
                  have e38 : two 38 = 274877906944 := rfl
                  have hm : Xs * two d < 4611686018427387904 := by
                    have := Nat.mul_le_mul (show Xs ≤ 16777215 by omega) h2
                    rw [e38] at this
                    omega
                  have hsh : IntKind.u64.wrap ((Xs : Int) * 2 ^ d) = ((Xs * two d : Nat) : Int) := by
                    rw [two_cast, ← Int.natCast_mul, wrap64_nat (by omega)]
                  have HC2 : Hid (r = if Xn = Yn then roundP way Xn Ye (Xs * two d + Ys) false else if Xs * two d = Ys then sgn (way == 2) else if Ys < Xs * two d then roundP way Xn Ye (Xs * two d - Ys) false else roundP way Yn Ye (Ys - Xs * two d) false) := Lib.hid (by
                    rw [HC.out]; unfold coreN; dsimp only; rw [show (Xe - Ye).toNat = d from by omega, if_pos h38])
                  clear HC h2
                  generalize Xs * two d = Hh at *
                  by_cases hn : Xn = Yn
                  · subst hn
                    have HR := Lib.hid (HC2.out.trans (if_pos rfl)).symm
                    go_wp2
                    go_quiet (fail)
                    go_wp2_with fail
                    refine (round_at (s := Hh + Ys) (by first | rfl | (simp; done) | omega) (by omega) (by omega) HR).mono ?_
                    rintro e w' ⟨rfl, rfl⟩
                    go_wp2
                    go_ret
                    exact ⟨rfl, below_drewN hB3 _⟩
                  · have HC3 := Lib.hid (HC2.out.trans (if_neg hn))
                    obtain rfl : Yn = !Xn := by cases Xn <;> cases Yn <;> simp_all
                    have hq : (Xn == !Xn) = false := by cases Xn <;> rfl
                    clear hn HC2
                    by_cases he : Hh = Ys
                    · have HR := Lib.hid (HC3.out.trans (if_pos he))
                      subst he
                      clear HC3
                      go_wp2
                      go_quiet (fail)
                      go_wp2_with fail
                      refine (nought_any _ _).mono ?_
                      rintro e w' ⟨rfl, rfl⟩
                      go_wp2
                      go_ret
                      exact ⟨by rw [HR.out]; rfl, below_drewN hB3 _⟩
                    · have HC4 := Lib.hid (HC3.out.trans (if_neg he))
                      have hq2 : ((Hh : Int) == (Ys : Int)) = false := by rw [beq_eq_false_iff_ne]; omega
                      by_cases hl : Ys < Hh
                      · have HR := Lib.hid (HC4.out.trans (if_pos hl)).symm
                        have hl' : (Ys : Int) < (Hh : Int) := by omega
                        have hw : IntKind.u64.wrap ((Hh : Int) - (Ys : Int)) = ((Hh - Ys : Nat) : Int) := by rw [show (Hh : Int) - Ys = ((Hh - Ys : Nat) : Int) from by omega, wrap64_nat (by omega)]
                        go_wp2
                        go_quiet (fail)
                        go_wp2_with fail
                        refine (round_at (s := Hh - Ys) (by first | rfl | omega) (by omega) (by omega) HR).mono ?_
                        rintro e w' ⟨rfl, rfl⟩
                        go_wp2
                        go_ret
                        exact ⟨rfl, below_drewN hB3 _⟩
                      · have HR := Lib.hid (HC4.out.trans (if_neg hl)).symm
                        have hl' : ¬ (Ys : Int) < (Hh : Int) := by omega
                        have hw : IntKind.u64.wrap ((Ys : Int) - (Hh : Int)) = ((Ys - Hh : Nat) : Int) := by rw [show (Ys : Int) - Hh = ((Ys - Hh : Nat) : Int) from by omega, wrap64_nat (by omega)]
                        go_wp2
                        go_quiet (fail)
                        go_wp2_with fail
                        refine (round_at (s := Ys - Hh) (by first | rfl | omega) (by omega) (by omega) HR).mono ?_
                        rintro e w' ⟨rfl, rfl⟩
                        go_wp2
                        go_ret
                        exact ⟨rfl, below_drewN hB3 _⟩
                · obtain ⟨k, hk⟩ : ∃ k : Nat, (d : Int) - 38 = (k : Int) := ⟨d - 38, by omega⟩
                  have hXs : 8388608 ≤ Xs := hnm (by omega)
                  have HC2 : Hid (r = if Xn = Yn then roundP way Xn (Xe - 38) (Xs * 274877906944 + Ys / two k) (decide (Ys % two k ≠ 0)) else if Ys % two k ≠ 0 then roundP way Xn (Xe - 38) (Xs * 274877906944 - Ys / two k - 1) true else roundP way Xn (Xe - 38) (Xs * 274877906944 - Ys / two k) false) := Lib.hid (by
                    rw [HC.out]; unfold coreN; dsimp only; rw [show (Xe - Ye).toNat = d from by omega, if_neg h38, show d - 38 = k from by omega])
                  have hlow := shr_low (k := k) hY1
                  have hlost := shr_lost (k := k) hY1
                  have hL : Ys / two k < 16777216 := Nat.lt_of_le_of_lt (Nat.div_le_self _ _) hY1
                  have HC3 : Hid (r = if Xn = Yn then roundP way Xn (Xe - 38) (Xs * 274877906944 + Ys / two k) (decide (Ys % two k ≠ 0)) else if decide (Ys % two k ≠ 0) = true then roundP way Xn (Xe - 38) (Xs * 274877906944 - Ys / two k - 1) true else roundP way Xn (Xe - 38) (Xs * 274877906944 - Ys / two k) false) := Lib.hid (by
                    rw [HC2.out]; simp only [decide_eq_true_eq])
                  clear HC HC2
                  generalize Ys / two k = L at *
                  generalize decide (Ys % two k ≠ 0) = lb at *
                  by_cases hn : Xn = Yn
                  · subst hn
                    have HR := Lib.hid (HC3.out.trans (if_pos rfl)).symm
                    go_wp2
                    go_quiet (fail)
                    go_wp2
                    go_quiet (fail)
                    go_wp2_with fail
                    refine (round_at (s := Xs * 274877906944 + L) (by first | rfl | (simp; done) | omega) (by omega) (by omega) HR).mono ?_
                    rintro e w' ⟨rfl, rfl⟩
                    go_wp2
                    go_ret
                    exact ⟨rfl, below_drewN hB3 _⟩
                  · have HC4 := Lib.hid (HC3.out.trans (if_neg hn))
                    obtain rfl : Yn = !Xn := by cases Xn <;> cases Yn <;> simp_all
                    have hq : (Xn == !Xn) = false := by cases Xn <;> rfl
                    clear hn HC3
                    cases lb
                    · have HR := Lib.hid (HC4.out.trans (if_neg (by decide))).symm
                      have hq2 : ((Xs : Int) * 274877906944 == (L : Int)) = false := by rw [beq_eq_false_iff_ne]; omega
                      have hl' : (L : Int) < (Xs : Int) * 274877906944 := by omega
                      have hw : IntKind.u64.wrap ((Xs : Int) * 274877906944 - (L : Int)) = ((Xs * 274877906944 - L : Nat) : Int) := by rw [show (Xs : Int) * 274877906944 - L = ((Xs * 274877906944 - L : Nat) : Int) from by omega, wrap64_nat (by omega)]
                      go_wp2
                      go_quiet (fail)
                      go_wp2
                      go_quiet (fail)
                      go_wp2_with fail
                      refine (round_at (s := Xs * 274877906944 - L) (by first | rfl | omega) (by omega) (by omega) HR).mono ?_
                      rintro e w' ⟨rfl, rfl⟩
                      go_wp2
                      go_ret
                      exact ⟨rfl, below_drewN hB3 _⟩
                    · have HR := Lib.hid (HC4.out.trans (if_pos rfl)).symm
                      go_wp2
                      go_quiet (fail)
                      go_wp2
                      go_quiet (fail)
                      go_wp2_with fail
                      refine (round_at (s := Xs * 274877906944 - L - 1) (by first | rfl | omega) (by omega) (by omega) HR).mono ?_
                      rintro e w' ⟨rfl, rfl⟩
                      go_wp2
                      go_ret
                      exact ⟨rfl, below_drewN hB3 _⟩
        · have HR : Hid (r = b) := Lib.hid (by rw [HM.out]; simp [addN])
          go_enter Try.func58, Try.ntmps58
          go_wp2_with fail
          refine (open_at h HX).mono ?_
          rintro e W1 ⟨rfl, hB1⟩
          go_wp2_with fail
          refine (open_at h' HY).mono ?_
          rintro e W2 ⟨rfl, hB2⟩
          have hB2' := hB1.trans (hB2.mono hB1.size)
          have hz2 := hB2'.size
          clear hB1 hB2
          go_wp2
          go_ret
          exact ⟨by rw [HR.out]; rfl, (hB2'.alloc hz2 _).alloc (by simp; omega) _⟩
      · cases yinf
        · have HR : Hid (r = a) := Lib.hid (by rw [HM.out]; simp [addN])
          go_enter Try.func58, Try.ntmps58
          go_wp2_with fail
          refine (open_at h HX).mono ?_
          rintro e W1 ⟨rfl, hB1⟩
          go_wp2_with fail
          refine (open_at h' HY).mono ?_
          rintro e W2 ⟨rfl, hB2⟩
          have hB2' := hB1.trans (hB2.mono hB1.size)
          have hz2 := hB2'.size
          clear hB1 hB2
          go_wp2
          go_ret
          exact ⟨by rw [HR.out]; rfl, (hB2'.alloc hz2 _).alloc (by simp; omega) _⟩
        · by_cases hn : xn = yn
          · subst hn
            have hq : (xn != xn) = false := by simp
            have HR : Hid (r = a) := Lib.hid (by rw [HM.out]; simp [addN])
            go_enter Try.func58, Try.ntmps58
            go_wp2_with fail
            refine (open_at h HX).mono ?_
            rintro e W1 ⟨rfl, hB1⟩
            go_wp2_with fail
            refine (open_at h' HY).mono ?_
            rintro e W2 ⟨rfl, hB2⟩
            have hB2' := hB1.trans (hB2.mono hB1.size)
            have hz2 := hB2'.size
            clear hB1 hB2
            go_wp2
            go_ret
            exact ⟨by rw [HR.out]; rfl, (hB2'.alloc hz2 _).alloc (by simp; omega) _⟩
          · obtain rfl : yn = !xn := by cases xn <;> cases yn <;> simp_all
            have hq : (xn != !xn) = true := by cases xn <;> rfl
            have HR : Hid (r = 2143289344) := Lib.hid (by rw [HM.out]; simp [addN])
            clear hn
            go_enter Try.func58, Try.ntmps58
            go_wp2_with fail
            refine (open_at h HX).mono ?_
            rintro e W1 ⟨rfl, hB1⟩
            go_wp2_with fail
            refine (open_at h' HY).mono ?_
            rintro e W2 ⟨rfl, hB2⟩
            have hB2' := hB1.trans (hB2.mono hB1.size)
            have hz2 := hB2'.size
            clear hB1 hB2
            go_wp2
            go_ret
            exact ⟨by rw [HR.out]; rfl, (hB2'.alloc hz2 _).alloc (by simp; omega) _⟩
    · have HR : Hid (r = 2143289344) := Lib.hid (by rw [HM.out]; simp [addN])
      go_enter Try.func58, Try.ntmps58
      go_wp2_with fail
      refine (open_at h HX).mono ?_
      rintro e W1 ⟨rfl, hB1⟩
      go_wp2_with fail
      refine (open_at h' HY).mono ?_
      rintro e W2 ⟨rfl, hB2⟩
      have hB2' := hB1.trans (hB2.mono hB1.size)
      have hz2 := hB2'.size
      clear hB1 hB2
      go_wp2
      go_ret
      exact ⟨by rw [HR.out]; rfl, (hB2'.alloc hz2 _).alloc (by simp; omega) _⟩
  · have HR : Hid (r = 2143289344) := Lib.hid (by rw [HM.out]; simp [addN])
    go_enter Try.func58, Try.ntmps58
    go_wp2_with fail
    refine (open_at h HX).mono ?_
    rintro e W1 ⟨rfl, hB1⟩
    go_wp2_with fail
    refine (open_at h' HY).mono ?_
    rintro e W2 ⟨rfl, hB2⟩
    have hB2' := hB1.trans (hB2.mono hB1.size)
    have hz2 := hB2'.size
    clear hB1 hB2
    go_wp2
    go_ret
    exact ⟨by rw [HR.out]; rfl, (hB2'.alloc hz2 _).alloc (by simp; omega) _⟩
end Go.Proofs.Ytegeadkilolngaa

/- The contract of soft.DivBy. -/
namespace Go.Proofs.Ytegeadkilolngaa
open Go.RowKit

theorem open_class {a : Nat} {xn xnan xinf : Bool} {xe : Int} {xs : Nat} (hx : openN a = ⟨xn, xnan, xinf, xe, xs⟩) :
    (xnan = true ∧ xinf = false ∧ xs = 0) ∨ (xnan = false ∧ xinf = true ∧ xs = 0) ∨ (xnan = false ∧ xinf = false ∧ xs = 0) ∨ (xnan = false ∧ xinf = false ∧ ¬ xs = 0) := by
  unfold openN at hx
  split at hx
  · injection hx with h1 h2 h3 h4 h5
    subst h2 h3 h5
    by_cases hf : a % 8388608 = 0
    · simp [hf]
    · simp [hf]
  · split at hx
    · injection hx with h1 h2 h3 h4 h5
      subst h2 h3 h5
      by_cases hf : a % 8388608 = 0
      · simp [hf]
      · simp [hf]
    · injection hx with h1 h2 h3 h4 h5
      subst h2 h3 h5
      simp
def fk (s : Nat) : Nat := 24 - blen s
def fm (s : Nat) : Nat := s * two (24 - blen s)
def divN (way : Int) (x y : Num) : Nat :=
  if (x.nan || y.nan || (x.inf && y.inf) || ((!x.inf && x.sig == 0) && (!y.inf && y.sig == 0))) = true then 2143289344
  else if (x.inf || (!y.inf && y.sig == 0)) = true then sgn (x.neg != y.neg) + 2139095040
  else if (y.inf || (!x.inf && x.sig == 0)) = true then sgn (x.neg != y.neg)
  else roundP way (x.neg != y.neg) ((x.exp - fk x.sig) - (y.exp - fk y.sig) - 38) (fm x.sig * 274877906944 / fm y.sig) (decide (fm x.sig * 274877906944 % fm y.sig ≠ 0))
def divP (way : Int) (a b : Nat) : Nat := divN way (openN a) (openN b)

set_option maxRecDepth 100000 in
set_option maxHeartbeats 4000000 in
theorem div_any (way : Int) (a b : Nat) (w : World) (h : Hid (a < 4294967296)) (h' : Hid (b < 4294967296)) :
    Calls Try.prog 59 #[.int .i64 way, .int .u32 (a : Int), .int .u32 (b : Int)] w fun e w' => e = .returned (.int .u32 (divP way a b : Int)) ∧ Below w.heap.size w w' := by
  obtain ⟨xn, xnan, xinf, xe, xs, hx⟩ : ∃ xn xnan xinf xe xs, openN a = ⟨xn, xnan, xinf, xe, xs⟩ := ⟨_, _, _, _, _, rfl⟩
  obtain ⟨yn, ynan, yinf, ye, ys, hy⟩ : ∃ yn ynan yinf ye ys, openN b = ⟨yn, ynan, yinf, ye, ys⟩ := ⟨_, _, _, _, _, rfl⟩
  obtain ⟨hx1, hx2, hx3⟩ := openN_ok hx
  obtain ⟨hy1, hy2, hy3⟩ := openN_ok hy
  have hxc := open_class hx
  have hyc := open_class hy
  have HM : Hid (divP way a b = divN way ⟨xn, xnan, xinf, xe, xs⟩ ⟨yn, ynan, yinf, ye, ys⟩) := Lib.hid (by unfold divP; rw [hx, hy])
  have HX := Lib.hid hx
  have HY := Lib.hid hy
  clear hx hy
  generalize divP way a b = r at *
  rcases hxc with hxc | hxc | hxc | hxc <;> rcases hyc with hyc | hyc | hyc | hyc
  · obtain ⟨rfl, rfl, rfl⟩ : xnan = true ∧ xinf = false ∧ xs = 0 := hxc
    obtain ⟨rfl, rfl, rfl⟩ : ynan = true ∧ yinf = false ∧ ys = 0 := hyc
    have HR : Hid (r = 2143289344) := Lib.hid (by rw [HM.out]; simp [divN])
    go_enter Try.func59, Try.ntmps59
    go_wp2_with fail
    refine (open_at h HX).mono ?_
    rintro e W1 ⟨rfl, hB1⟩
    go_wp2_with fail
    refine (open_at h' HY).mono ?_
    rintro e W2 ⟨rfl, hB2⟩
    have hB2' := hB1.trans (hB2.mono hB1.size)
    have hz2 := hB2'.size
    clear hB1 hB2
    go_wp2
    go_quiet (fail)
    go_wp2
    go_ret
    exact ⟨by rw [HR.out]; rfl, below_drewN ((hB2'.alloc hz2 _).alloc (by simp; omega) _) _⟩
  · obtain ⟨rfl, rfl, rfl⟩ : xnan = true ∧ xinf = false ∧ xs = 0 := hxc
    obtain ⟨rfl, rfl, rfl⟩ : ynan = false ∧ yinf = true ∧ ys = 0 := hyc
    have HR : Hid (r = 2143289344) := Lib.hid (by rw [HM.out]; simp [divN])
    go_enter Try.func59, Try.ntmps59
    go_wp2_with fail
    refine (open_at h HX).mono ?_
    rintro e W1 ⟨rfl, hB1⟩
    go_wp2_with fail
    refine (open_at h' HY).mono ?_
    rintro e W2 ⟨rfl, hB2⟩
    have hB2' := hB1.trans (hB2.mono hB1.size)
    have hz2 := hB2'.size
    clear hB1 hB2
    go_wp2
    go_quiet (fail)
    go_wp2
    go_ret
    exact ⟨by rw [HR.out]; rfl, below_drewN ((hB2'.alloc hz2 _).alloc (by simp; omega) _) _⟩
  · obtain ⟨rfl, rfl, rfl⟩ : xnan = true ∧ xinf = false ∧ xs = 0 := hxc
    obtain ⟨rfl, rfl, rfl⟩ : ynan = false ∧ yinf = false ∧ ys = 0 := hyc
    have HR : Hid (r = 2143289344) := Lib.hid (by rw [HM.out]; simp [divN])
    go_enter Try.func59, Try.ntmps59
    go_wp2_with fail
    refine (open_at h HX).mono ?_
    rintro e W1 ⟨rfl, hB1⟩
    go_wp2_with fail
    refine (open_at h' HY).mono ?_
    rintro e W2 ⟨rfl, hB2⟩
    have hB2' := hB1.trans (hB2.mono hB1.size)
    have hz2 := hB2'.size
    clear hB1 hB2
    go_wp2
    go_quiet (fail)
    go_wp2
    go_ret
    exact ⟨by rw [HR.out]; rfl, below_drewN ((hB2'.alloc hz2 _).alloc (by simp; omega) _) _⟩
  · obtain ⟨rfl, rfl, rfl⟩ : xnan = true ∧ xinf = false ∧ xs = 0 := hxc
    obtain ⟨rfl, rfl, hzy⟩ : ynan = false ∧ yinf = false ∧ ¬ ys = 0 := hyc
    have hby : ((ys : Int) == 0) = false := by rw [beq_eq_false_iff_ne]; omega
    have HR : Hid (r = 2143289344) := Lib.hid (by rw [HM.out]; simp [divN])
    go_enter Try.func59, Try.ntmps59
    go_wp2_with fail
    refine (open_at h HX).mono ?_
    rintro e W1 ⟨rfl, hB1⟩
    go_wp2_with fail
    refine (open_at h' HY).mono ?_
    rintro e W2 ⟨rfl, hB2⟩
    have hB2' := hB1.trans (hB2.mono hB1.size)
    have hz2 := hB2'.size
    clear hB1 hB2
    go_wp2
    go_quiet (fail)
    go_wp2
    go_ret
    exact ⟨by rw [HR.out]; rfl, below_drewN ((hB2'.alloc hz2 _).alloc (by simp; omega) _) _⟩
  · obtain ⟨rfl, rfl, rfl⟩ : xnan = false ∧ xinf = true ∧ xs = 0 := hxc
    obtain ⟨rfl, rfl, rfl⟩ : ynan = true ∧ yinf = false ∧ ys = 0 := hyc
    have HR : Hid (r = 2143289344) := Lib.hid (by rw [HM.out]; simp [divN])
    go_enter Try.func59, Try.ntmps59
    go_wp2_with fail
    refine (open_at h HX).mono ?_
    rintro e W1 ⟨rfl, hB1⟩
    go_wp2_with fail
    refine (open_at h' HY).mono ?_
    rintro e W2 ⟨rfl, hB2⟩
    have hB2' := hB1.trans (hB2.mono hB1.size)
    have hz2 := hB2'.size
    clear hB1 hB2
    go_wp2
    go_quiet (fail)
    go_wp2
    go_ret
    exact ⟨by rw [HR.out]; rfl, below_drewN ((hB2'.alloc hz2 _).alloc (by simp; omega) _) _⟩
  · obtain ⟨rfl, rfl, rfl⟩ : xnan = false ∧ xinf = true ∧ xs = 0 := hxc
    obtain ⟨rfl, rfl, rfl⟩ : ynan = false ∧ yinf = true ∧ ys = 0 := hyc
    have HR : Hid (r = 2143289344) := Lib.hid (by rw [HM.out]; simp [divN])
    go_enter Try.func59, Try.ntmps59
    go_wp2_with fail
    refine (open_at h HX).mono ?_
    rintro e W1 ⟨rfl, hB1⟩
    go_wp2_with fail
    refine (open_at h' HY).mono ?_
    rintro e W2 ⟨rfl, hB2⟩
    have hB2' := hB1.trans (hB2.mono hB1.size)
    have hz2 := hB2'.size
    clear hB1 hB2
    go_wp2
    go_quiet (fail)
    go_wp2
    go_ret
    exact ⟨by rw [HR.out]; rfl, below_drewN ((hB2'.alloc hz2 _).alloc (by simp; omega) _) _⟩
  · obtain ⟨rfl, rfl, rfl⟩ : xnan = false ∧ xinf = true ∧ xs = 0 := hxc
    obtain ⟨rfl, rfl, rfl⟩ : ynan = false ∧ yinf = false ∧ ys = 0 := hyc
    have HR : Hid (r = sgn (xn != yn) + 2139095040) := Lib.hid (by rw [HM.out]; simp [divN])
    go_enter Try.func59, Try.ntmps59
    go_wp2_with fail
    refine (open_at h HX).mono ?_
    rintro e W1 ⟨rfl, hB1⟩
    go_wp2_with fail
    refine (open_at h' HY).mono ?_
    rintro e W2 ⟨rfl, hB2⟩
    have hB2' := hB1.trans (hB2.mono hB1.size)
    have hz2 := hB2'.size
    clear hB1 hB2
    go_wp2
    go_quiet (fail)
    go_wp2_with fail
    refine (sign_any _ _).mono ?_
    rintro e w' ⟨rfl, rfl⟩
    go_wp2
    go_ret
    exact ⟨by rw [HR.out]; exact congrArg Ending.returned (congrArg (Value.int .u32) ((or_sign (xn != yn) (by decide) (by decide)).trans (by omega))), below_drewN ((hB2'.alloc hz2 _).alloc (by simp; omega) _) _⟩
  · obtain ⟨rfl, rfl, rfl⟩ : xnan = false ∧ xinf = true ∧ xs = 0 := hxc
    obtain ⟨rfl, rfl, hzy⟩ : ynan = false ∧ yinf = false ∧ ¬ ys = 0 := hyc
    have hby : ((ys : Int) == 0) = false := by rw [beq_eq_false_iff_ne]; omega
    have HR : Hid (r = sgn (xn != yn) + 2139095040) := Lib.hid (by rw [HM.out]; simp [divN])
    go_enter Try.func59, Try.ntmps59
    go_wp2_with fail
    refine (open_at h HX).mono ?_
    rintro e W1 ⟨rfl, hB1⟩
    go_wp2_with fail
    refine (open_at h' HY).mono ?_
    rintro e W2 ⟨rfl, hB2⟩
    have hB2' := hB1.trans (hB2.mono hB1.size)
    have hz2 := hB2'.size
    clear hB1 hB2
    go_wp2
    go_quiet (fail)
    go_wp2_with fail
    refine (sign_any _ _).mono ?_
    rintro e w' ⟨rfl, rfl⟩
    go_wp2
    go_ret
    exact ⟨by rw [HR.out]; exact congrArg Ending.returned (congrArg (Value.int .u32) ((or_sign (xn != yn) (by decide) (by decide)).trans (by omega))), below_drewN ((hB2'.alloc hz2 _).alloc (by simp; omega) _) _⟩
  · obtain ⟨rfl, rfl, rfl⟩ : xnan = false ∧ xinf = false ∧ xs = 0 := hxc
    obtain ⟨rfl, rfl, rfl⟩ : ynan = true ∧ yinf = false ∧ ys = 0 := hyc
    have HR : Hid (r = 2143289344) := Lib.hid (by rw [HM.out]; simp [divN])
    go_enter Try.func59, Try.ntmps59
    go_wp2_with fail
    refine (open_at h HX).mono ?_
    rintro e W1 ⟨rfl, hB1⟩
    go_wp2_with fail
    refine (open_at h' HY).mono ?_
    rintro e W2 ⟨rfl, hB2⟩
    have hB2' := hB1.trans (hB2.mono hB1.size)
    have hz2 := hB2'.size
    clear hB1 hB2
    go_wp2
    go_quiet (fail)
    go_wp2
    go_ret
    exact ⟨by rw [HR.out]; rfl, below_drewN ((hB2'.alloc hz2 _).alloc (by simp; omega) _) _⟩
  · obtain ⟨rfl, rfl, rfl⟩ : xnan = false ∧ xinf = false ∧ xs = 0 := hxc
    obtain ⟨rfl, rfl, rfl⟩ : ynan = false ∧ yinf = true ∧ ys = 0 := hyc
    have HR : Hid (r = sgn (xn != yn)) := Lib.hid (by rw [HM.out]; simp [divN])
    go_enter Try.func59, Try.ntmps59
    go_wp2_with fail
    refine (open_at h HX).mono ?_
    rintro e W1 ⟨rfl, hB1⟩
    go_wp2_with fail
    refine (open_at h' HY).mono ?_
    rintro e W2 ⟨rfl, hB2⟩
    have hB2' := hB1.trans (hB2.mono hB1.size)
    have hz2 := hB2'.size
    clear hB1 hB2
    go_wp2
    go_quiet (fail)
    go_wp2_with fail
    refine (sign_any _ _).mono ?_
    rintro e w' ⟨rfl, rfl⟩
    go_wp2
    go_ret
    exact ⟨by rw [HR.out]; rfl, below_drewN ((hB2'.alloc hz2 _).alloc (by simp; omega) _) _⟩
  · obtain ⟨rfl, rfl, rfl⟩ : xnan = false ∧ xinf = false ∧ xs = 0 := hxc
    obtain ⟨rfl, rfl, rfl⟩ : ynan = false ∧ yinf = false ∧ ys = 0 := hyc
    have HR : Hid (r = 2143289344) := Lib.hid (by rw [HM.out]; simp [divN])
    go_enter Try.func59, Try.ntmps59
    go_wp2_with fail
    refine (open_at h HX).mono ?_
    rintro e W1 ⟨rfl, hB1⟩
    go_wp2_with fail
    refine (open_at h' HY).mono ?_
    rintro e W2 ⟨rfl, hB2⟩
    have hB2' := hB1.trans (hB2.mono hB1.size)
    have hz2 := hB2'.size
    clear hB1 hB2
    go_wp2
    go_quiet (fail)
    go_wp2
    go_ret
    exact ⟨by rw [HR.out]; rfl, below_drewN ((hB2'.alloc hz2 _).alloc (by simp; omega) _) _⟩
  · obtain ⟨rfl, rfl, rfl⟩ : xnan = false ∧ xinf = false ∧ xs = 0 := hxc
    obtain ⟨rfl, rfl, hzy⟩ : ynan = false ∧ yinf = false ∧ ¬ ys = 0 := hyc
    have hby : ((ys : Int) == 0) = false := by rw [beq_eq_false_iff_ne]; omega
    have HR : Hid (r = sgn (xn != yn)) := Lib.hid (by rw [HM.out]; simp [divN, hzy])
    go_enter Try.func59, Try.ntmps59
    go_wp2_with fail
    refine (open_at h HX).mono ?_
    rintro e W1 ⟨rfl, hB1⟩
    go_wp2_with fail
    refine (open_at h' HY).mono ?_
    rintro e W2 ⟨rfl, hB2⟩
    have hB2' := hB1.trans (hB2.mono hB1.size)
    have hz2 := hB2'.size
    clear hB1 hB2
    go_wp2
    go_quiet (fail)
    go_wp2_with fail
    refine (sign_any _ _).mono ?_
    rintro e w' ⟨rfl, rfl⟩
    go_wp2
    go_ret
    exact ⟨by rw [HR.out]; rfl, below_drewN ((hB2'.alloc hz2 _).alloc (by simp; omega) _) _⟩
  · obtain ⟨rfl, rfl, hzx⟩ : xnan = false ∧ xinf = false ∧ ¬ xs = 0 := hxc
    have hbx : ((xs : Int) == 0) = false := by rw [beq_eq_false_iff_ne]; omega
    obtain ⟨rfl, rfl, rfl⟩ : ynan = true ∧ yinf = false ∧ ys = 0 := hyc
    have HR : Hid (r = 2143289344) := Lib.hid (by rw [HM.out]; simp [divN])
    go_enter Try.func59, Try.ntmps59
    go_wp2_with fail
    refine (open_at h HX).mono ?_
    rintro e W1 ⟨rfl, hB1⟩
    go_wp2_with fail
    refine (open_at h' HY).mono ?_
    rintro e W2 ⟨rfl, hB2⟩
    have hB2' := hB1.trans (hB2.mono hB1.size)
    have hz2 := hB2'.size
    clear hB1 hB2
    go_wp2
    go_quiet (fail)
    go_wp2
    go_ret
    exact ⟨by rw [HR.out]; rfl, below_drewN ((hB2'.alloc hz2 _).alloc (by simp; omega) _) _⟩
  · obtain ⟨rfl, rfl, hzx⟩ : xnan = false ∧ xinf = false ∧ ¬ xs = 0 := hxc
    have hbx : ((xs : Int) == 0) = false := by rw [beq_eq_false_iff_ne]; omega
    obtain ⟨rfl, rfl, rfl⟩ : ynan = false ∧ yinf = true ∧ ys = 0 := hyc
    have HR : Hid (r = sgn (xn != yn)) := Lib.hid (by rw [HM.out]; simp [divN])
    go_enter Try.func59, Try.ntmps59
    go_wp2_with fail
    refine (open_at h HX).mono ?_
    rintro e W1 ⟨rfl, hB1⟩
    go_wp2_with fail
    refine (open_at h' HY).mono ?_
    rintro e W2 ⟨rfl, hB2⟩
    have hB2' := hB1.trans (hB2.mono hB1.size)
    have hz2 := hB2'.size
    clear hB1 hB2
    go_wp2
    go_quiet (fail)
    go_wp2_with fail
    refine (sign_any _ _).mono ?_
    rintro e w' ⟨rfl, rfl⟩
    go_wp2
    go_ret
    exact ⟨by rw [HR.out]; rfl, below_drewN ((hB2'.alloc hz2 _).alloc (by simp; omega) _) _⟩
  · obtain ⟨rfl, rfl, hzx⟩ : xnan = false ∧ xinf = false ∧ ¬ xs = 0 := hxc
    have hbx : ((xs : Int) == 0) = false := by rw [beq_eq_false_iff_ne]; omega
    obtain ⟨rfl, rfl, rfl⟩ : ynan = false ∧ yinf = false ∧ ys = 0 := hyc
    have HR : Hid (r = sgn (xn != yn) + 2139095040) := Lib.hid (by rw [HM.out]; simp [divN, hzx])
    go_enter Try.func59, Try.ntmps59
    go_wp2_with fail
    refine (open_at h HX).mono ?_
    rintro e W1 ⟨rfl, hB1⟩
    go_wp2_with fail
    refine (open_at h' HY).mono ?_
    rintro e W2 ⟨rfl, hB2⟩
    have hB2' := hB1.trans (hB2.mono hB1.size)
    have hz2 := hB2'.size
    clear hB1 hB2
    go_wp2
    go_quiet (fail)
    go_wp2_with fail
    refine (sign_any _ _).mono ?_
    rintro e w' ⟨rfl, rfl⟩
    go_wp2
    go_ret
    exact ⟨by rw [HR.out]; exact congrArg Ending.returned (congrArg (Value.int .u32) ((or_sign (xn != yn) (by decide) (by decide)).trans (by omega))), below_drewN ((hB2'.alloc hz2 _).alloc (by simp; omega) _) _⟩
  · obtain ⟨rfl, rfl, hzx⟩ : xnan = false ∧ xinf = false ∧ ¬ xs = 0 := hxc
    have hbx : ((xs : Int) == 0) = false := by rw [beq_eq_false_iff_ne]; omega
    obtain ⟨rfl, rfl, hzy⟩ : ynan = false ∧ yinf = false ∧ ¬ ys = 0 := hyc
    have hby : ((ys : Int) == 0) = false := by rw [beq_eq_false_iff_ne]; omega
    have HR : Hid (roundP way (xn != yn) ((xe - fk xs) - (ye - fk ys) - 38) (fm xs * 274877906944 / fm ys) (decide (fm xs * 274877906944 % fm ys ≠ 0)) = r) := Lib.hid (by rw [HM.out]; simp [divN, hzx, hzy])
    go_enter Try.func59, Try.ntmps59
    go_wp2_with fail
    refine (open_at h HX).mono ?_
    rintro e W1 ⟨rfl, hB1⟩
    go_wp2_with fail
    refine (open_at h' HY).mono ?_
    rintro e W2 ⟨rfl, hB2⟩
    have hB2' := hB1.trans (hB2.mono hB1.size)
    have hz2 := hB2'.size
    clear hB1 hB2 HM HX HY
    go_wp2
    go_quiet (fail)
    go_wp2_with fail
    have hB3 : Below w.heap.size w (((W2.alloc (.cells #[.bool xn, .bool false, .bool false, .int .i64 xe, .int .u64 (xs : Int)] 59)).alloc (.cells #[.bool yn, .bool false, .bool false, .int .i64 ye, .int .u64 (ys : Int)] 59)).drewN nq) := below_drewN ((hB2'.alloc hz2 _).alloc (by simp; omega) _) _
    have hk7 : Blk (((W2.alloc (.cells #[.bool xn, .bool false, .bool false, .int .i64 xe, .int .u64 (xs : Int)] 59)).alloc (.cells #[.bool yn, .bool false, .bool false, .int .i64 ye, .int .u64 (ys : Int)] 59)).drewN nq) W2.heap.size 59 #[.bool xn, .bool false, .bool false, .int .i64 xe, .int .u64 (xs : Int)] := ((Blk.new W2 _ _).alloc _).drewN _
    have hk8 : Blk (((W2.alloc (.cells #[.bool xn, .bool false, .bool false, .int .i64 xe, .int .u64 (xs : Int)] 59)).alloc (.cells #[.bool yn, .bool false, .bool false, .int .i64 ye, .int .u64 (ys : Int)] 59)).drewN nq) (W2.heap.size + 1) 59 #[.bool yn, .bool false, .bool false, .int .i64 ye, .int .u64 (ys : Int)] := by
      have := (Blk.new (W2.alloc (.cells #[.bool xn, .bool false, .bool false, .int .i64 xe, .int .u64 (xs : Int)] 59)) 59 #[.bool yn, .bool false, .bool false, .int .i64 ye, .int .u64 (ys : Int)]).drewN nq
      simpa using this
    generalize ((W2.alloc (.cells #[.bool xn, .bool false, .bool false, .int .i64 xe, .int .u64 (xs : Int)] 59)).alloc (.cells #[.bool yn, .bool false, .bool false, .int .i64 ye, .int .u64 (ys : Int)] 59)).drewN nq = W3 at *
    have hz7 : W2.heap.size + 1 < W3.heap.size := hk8.lt
    go_cut [] from 77 to 80 (fun wx => Blk wx W2.heap.size 59 #[.bool xn, .bool false, .bool false, .int .i64 (xe - (fk xs : Nat)), .int .u64 ((fm xs : Nat) : Int)] ∧ Blk wx (W2.heap.size + 1) 59 #[.bool yn, .bool false, .bool false, .int .i64 (ye - (fk ys : Nat)), .int .u64 ((fm ys : Nat) : Int)] ∧ Below w.heap.size w wx)
    case first =>
      clear HR
      obtain ⟨x0, x1, x2, x3, x4⟩ := blk5 hk7
      obtain ⟨y0, y1, y2, y3, y4⟩ := blk5 hk8
      have hst : True := trivial
      go_region_with (
        go_at_call 77
        first
        | (clear hst
           refine (full_any _ (Nat.pos_of_ne_zero hzx) hx1 ⟨hx2, hx3⟩ (Lib.hid rfl) (Lib.hid rfl)).mono ?_
           rintro e w4 ⟨rfl, hB4⟩
           have hk7 := hk7.drew.below hB4 (by show _ < W3.heap.size; omega)
           have hk8 := hk8.drew.below hB4 (by show _ < W3.heap.size; omega)
           have hz4 : W3.heap.size ≤ w4.heap.size := hB4.size
           obtain ⟨x0, x1, x2, x3, x4⟩ := blk5 hk7
           obtain ⟨y0, y1, y2, y3, y4⟩ := blk5 hk8)
        | (refine (full_any _ (Nat.pos_of_ne_zero hzy) hy1 ⟨hy2, hy3⟩ (Lib.hid rfl) (Lib.hid rfl)).mono ?_
           rintro e w5 ⟨rfl, hB5⟩
           have hk7 := hk7.below hB5 (by omega)
           have hk8 := hk8.below hB5 (by omega)
           have z0 := hk7.frozen 0
           have z1 := hk7.frozen 1
           have z2 := hk7.frozen 2
           have z3 := hk7.frozen 3
           have z4 := hk7.frozen 4
           have v0 := hk8.frozen 0
           have v1 := hk8.frozen 1
           have v2 := hk8.frozen 2
           have v3 := hk8.frozen 3
           have v4 := hk8.frozen 4
           have hz5 := hk8.lt
           have hz6 : W2.heap.size < w5.heap.size := by omega
           obtain ⟨x0, x1, x2, x3, x4⟩ := blk5 hk7
           obtain ⟨y0, y1, y2, y3, y4⟩ := blk5 hk8))
      all_goals
        go_wp2_with fail
        go_meet
        case rel =>
          have hz0 := hB5.size
          have hB := (hB3.drew.trans (hB4.mono (by show w.heap.size ≤ W3.heap.size; omega))).trans (hB5.mono (by omega))
          refine ⟨?_, ?_, ?_⟩
          · exact (((((hk7.five _ _ _ _ _).far (by simp) _).far (by simp) _).far (by simp) _).far (by simp) _).far (by simp) _
          · exact (((((hk8.far (by simp) _).far (by simp) _).far (by simp) _).far (by simp) _).far (by simp) _).five _ _ _ _ _
          · exact (((((((((hB.setCell (by simp; omega) _).setCell (by simp; omega) _).setCell (by simp; omega) _).setCell (by simp; omega) _).setCell (by simp; omega) _).setCell (by simp; omega) _).setCell (by simp; omega) _).setCell (by simp; omega) _).setCell (by simp; omega) _).setCell (by simp; omega) _
    case rest =>
      clear hk7 hk8 hB3 hz7 hB2' hz2
      obtain ⟨hk7, hk8, hB3⟩ := hcut
      obtain ⟨f1, f2, -⟩ := full_sig (Nat.pos_of_ne_zero hzx) hx1
      obtain ⟨g1, g2, -⟩ := full_sig (Nat.pos_of_ne_zero hzy) hy1
      have k1 : fk xs ≤ 24 := Nat.sub_le _ _
      have k2 : fk ys ≤ 24 := Nat.sub_le _ _
      have f1 : 8388608 ≤ fm xs := f1
      have f2 : fm xs < 16777216 := f2
      have g1 : 8388608 ≤ fm ys := g1
      have g2 : fm ys < 16777216 := g2
      obtain ⟨x0, x1, x2, x3, x4⟩ := blk5 hk7
      obtain ⟨y0, y1, y2, y3, y4⟩ := blk5 hk8
      clear hk7 hk8
      generalize fm xs = P at *
      generalize fm ys = D at *
      generalize fk xs = k at *
      generalize fk ys = l at *
      have hd0 : ((D : Int) == 0) = false := by rw [beq_eq_false_iff_ne]; omega
      go_wp2
      go_quiet (fail)
      go_wp2_with fail
      have hmore : ((P : Int) * 274877906944 % (D : Int) != 0) = decide (P * 274877906944 % D ≠ 0) := by
        have e : (P : Int) * 274877906944 % (D : Int) = ((P * 274877906944 % D : Nat) : Int) := by simp
        rw [e]
        by_cases hh : P * 274877906944 % D = 0
        · rw [hh]; rfl
        · rw [decide_eq_true hh, bne_iff_ne]; omega
      rw [hmore]
      refine (round_at (s := P * 274877906944 / D) (by simp) (Nat.lt_of_le_of_lt (Nat.div_le_self _ _) (by omega)) (by omega) HR).mono ?_
      rintro e w' ⟨rfl, rfl⟩
      go_wp2
      go_ret
      exact ⟨rfl, below_drewN hB3 _⟩
end Go.Proofs.Ytegeadkilolngaa

/- The contracts of Add, Sub, Mul, Div, and of the statements' own examples. -/
namespace Go.Proofs.Ytegeadkilolngaa
open Go.RowKit

def BR (w : World) (r : Nat) (e : Ending) (w' : World) : Prop := e = .returned (.int .u32 (r : Int)) ∧ Below w.heap.size w w'
theorem add0_any (a b : Nat) (w : World) (h : Hid (a < 4294967296)) (h' : Hid (b < 4294967296)) :
    Calls Try.prog 34 #[.int .u32 (a : Int), .int .u32 (b : Int)] w (BR w (addP 0 a b)) := by
  go_enter Try.func34, Try.ntmps34
  go_wp2_with fail
  refine (add_any 0 a b _ h h').mono ?_
  rintro e w' ⟨rfl, hb⟩
  go_wp2
  go_ret
  exact ⟨rfl, hb⟩
theorem neg_lt {a : Nat} (h : a < 4294967296) : negP a < 4294967296 := by unfold negP; split <;> omega
theorem sub0_any (a b : Nat) (w : World) (h : Hid (a < 4294967296)) (h' : Hid (b < 4294967296)) :
    Calls Try.prog 32 #[.int .u32 (a : Int), .int .u32 (b : Int)] w (BR w (addP 0 a (negP b))) := by
  go_enter Try.func32, Try.ntmps32
  go_wp2_with fail
  refine (neg_any b _ h'.out).mono ?_
  rintro e w' ⟨rfl, rfl⟩
  go_wp2_with fail
  refine (add_any 0 a (negP b) _ h (Lib.hid (neg_lt h'.out))).mono ?_
  rintro e w' ⟨rfl, hb⟩
  go_wp2
  go_ret
  exact ⟨rfl, hb⟩
theorem mul0_any (a b : Nat) (w : World) (h : Hid (a < 4294967296)) (h' : Hid (b < 4294967296)) :
    Calls Try.prog 35 #[.int .u32 (a : Int), .int .u32 (b : Int)] w (BR w (mulP 0 a b)) := by
  go_enter Try.func35, Try.ntmps35
  go_wp2_with fail
  refine (mul_any 0 a b _ h h').mono ?_
  rintro e w' ⟨rfl, hb⟩
  go_wp2
  go_ret
  exact ⟨rfl, hb⟩
theorem div0_any (a b : Nat) (w : World) (h : Hid (a < 4294967296)) (h' : Hid (b < 4294967296)) :
    Calls Try.prog 33 #[.int .u32 (a : Int), .int .u32 (b : Int)] w (BR w (divP 0 a b)) := by
  go_enter Try.func33, Try.ntmps33
  go_wp2_with fail
  refine (div_any 0 a b _ h h').mono ?_
  rintro e w' ⟨rfl, hb⟩
  go_wp2
  go_ret
  exact ⟨rfl, hb⟩

end Go.Proofs.Ytegeadkilolngaa

/- The shell that the statements of this seat share. -/
namespace Go.Proofs.Ytegeadkilolngaa
open Go.ChangeShapes Go.WideShapes Go.ChangeAt Go.RowKit
theorem own : ownKnob Try.prog.godebug = none := by kernel_rfl
theorem laidOut : laidOutB Try.prog = true := by kernel_rfl
theorem u32_nat {n : Int} (h : (Lit.int .u32 n).wf = true) : ∃ x : Nat, n = x ∧ Hid (x < 4294967296) := by
  have hb := bounds_u32 h
  obtain ⟨x, rfl⟩ := Int.eq_ofNat_of_zero_le hb.1
  exact ⟨x, rfl, Lib.hid (by omega)⟩
section
variable {way : Int} {a b r : Nat} {w : World} (h : Hid (a < 4294967296)) (h' : Hid (b < 4294967296))
include h h'
theorem add_at (hr : Hid (addP way a b = r)) : Calls Try.prog 58 #[.int .i64 way, .int .u32 (a : Int), .int .u32 (b : Int)] w fun e w' => e = .returned (.int .u32 (r : Int)) ∧ Below w.heap.size w w' := by
  have := add_any way a b w h h'
  rw [hr.out] at this
  exact this
theorem mul_at (hr : Hid (mulP way a b = r)) : Calls Try.prog 60 #[.int .i64 way, .int .u32 (a : Int), .int .u32 (b : Int)] w fun e w' => e = .returned (.int .u32 (r : Int)) ∧ Below w.heap.size w w' := by
  have := mul_any way a b w h h'
  rw [hr.out] at this
  exact this
theorem div_at (hr : Hid (divP way a b = r)) : Calls Try.prog 59 #[.int .i64 way, .int .u32 (a : Int), .int .u32 (b : Int)] w fun e w' => e = .returned (.int .u32 (r : Int)) ∧ Below w.heap.size w w' := by
  have := div_any way a b w h h'
  rw [hr.out] at this
  exact this
theorem sub_at (hr : Hid (addP 0 a (negP b) = r)) : Calls Try.prog 32 #[.int .u32 (a : Int), .int .u32 (b : Int)] w fun e w' => e = .returned (.int .u32 (r : Int)) ∧ Below w.heap.size w w' := by
  have := sub0_any a b w h h'
  rw [hr.out] at this
  exact this
end
theorem inf_at {a : Nat} {b : Bool} {w : World} (h : Hid (a < 4294967296)) (hb : Hid (infP a = b)) : Calls Try.prog 45 #[.int .u32 (a : Int)] w fun e w' => e = .returned (.bool b) ∧ w' = w := by
  have := inf_any a w h.out
  rw [hb.out] at this
  exact this
end Go.Proofs.Ytegeadkilolngaa
