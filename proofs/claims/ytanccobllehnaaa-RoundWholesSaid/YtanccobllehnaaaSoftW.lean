/- The contract of soft.Round. -/
import Derived.Test.YtanccobllehnaaaSoftS
import Derived.Deep.CutRange
import Derived.Deep.CutBlock
namespace Go.Proofs.Ytanccobllehnaaa
open Go.RowKit

theorem blen_eq_zero {s : Nat} : (blen s : Int) = 0 ↔ s = 0 := by
  constructor
  · intro h
    by_cases h0 : s = 0
    · exact h0
    · have := blen_pos (s := s) (by omega); omega
  · rintro rfl; rfl

theorem two_cast (d : Nat) : (2 : Int) ^ d = (two d : Int) := by unfold two; simp
theorem wrap64_nat {x : Nat} (h : x < 18446744073709551616) : IntKind.u64.wrap (x : Int) = (x : Int) := by
  simp [IntKind.wrap, IntKind.bits, IntKind.signed]; omega
theorem two_64 : two 64 = 18446744073709551616 := rfl
theorem and_low {sig d : Nat} (hs : sig < 18446744073709551616) (h0 : 1 ≤ d) (h : d ≤ 64) : bits .and .u64 (sig : Int) (IntKind.u64.wrap (IntKind.u64.wrap (2 ^ d) - 1)) = ((sig % two d : Nat) : Int) := by
  have e : IntKind.u64.wrap (IntKind.u64.wrap (2 ^ d) - 1) = ((two d - 1 : Nat) : Int) := by
    rw [two_cast]
    have hp := two_pos d
    by_cases h64 : d = 64
    · subst h64; rfl
    · have h2 : two d < 18446744073709551616 := by
        have := two_le (show d ≤ 63 by omega)
        have e63 : two 63 = 9223372036854775808 := rfl
        omega
      rw [wrap64_nat h2, show ((two d : Nat) : Int) - 1 = ((two d - 1 : Nat) : Int) from by omega, wrap64_nat (by omega)]
  rw [e, bits_and_u64_nat sig (two d - 1) hs (by have := two_le h; rw [two_64] at this; have := two_pos d; omega)]
  unfold two
  rw [Nat.and_two_pow_sub_one_eq_mod]
theorem half_cast {d : Nat} (h : d ≤ 64) (h0 : 1 ≤ d) : IntKind.u64.wrap (2 ^ (d - 1)) = ((two (d - 1) : Nat) : Int) := by
  rw [two_cast]
  have := two_le (show d - 1 ≤ 63 by omega)
  have e63 : two 63 = 9223372036854775808 := rfl
  exact wrap64_nat (by omega)
theorem quo_cast (sig d : Nat) : (sig : Int) / 2 ^ d = ((sig / two d : Nat) : Int) := by rw [two_cast]; simp
/-- what Round's first switch leaves: the bits kept, more than half, half, more than nothing -/
def r3 (n drop : Int) (sig : Nat) (more : Bool) : Nat × Bool × Bool × Bool :=
  if drop ≤ 0 then (sig * two (-drop).toNat, false, false, more)
  else if n < drop then (0, false, false, true)
  else (sig / two drop.toNat, decide (two (drop.toNat - 1) < sig % two drop.toNat) || (decide (sig % two drop.toNat = two (drop.toNat - 1)) && more),
    decide (sig % two drop.toNat = two (drop.toNat - 1)) && !more, decide (sig % two drop.toNat ≠ 0) || more)
theorem fin_unit (way : Int) (neg : Bool) (U M : Nat) (R A T : Bool) : fin way neg (U * 8388608 + M) R A T = finU way neg (U * 8388608 + (if upB way neg M R A T = true then M + 1 else M)) := by
  have h : upB way neg (U * 8388608 + M) R A T = upB way neg M R A T := by
    unfold upB
    rw [show (U * 8388608 + M) % 2 = M % 2 from by omega]
  unfold fin
  rw [h]
  split
  · rw [Nat.add_assoc]
  · rfl
theorem and_1 {M : Nat} (h : M < 18446744073709551616) : bits .and .u64 (M : Int) 1 = ((M % 2 : Nat) : Int) := by
  have := bits_and_u64_nat M 1 h (by decide)
  rw [show M &&& 1 = M % 2 from Nat.and_two_pow_sub_one_eq_mod M 1] at this
  exact this
theorem r3_facts {exp drop : Int} {sig : Nat} {more : Bool} (hs : 0 < sig) (hd1 : (blen sig : Int) - 24 ≤ drop) (hd2 : -149 - exp ≤ drop) (hd3 : drop = (blen sig : Int) - 24 ∨ drop = -149 - exp) :
    (r3 (blen sig) drop sig more).1 < 16777216 ∧ ((exp + drop + 149).toNat = 0 ∨ 8388608 ≤ (r3 (blen sig) drop sig more).1) := by
  have hn1 := blen_le hs
  have hn2 := blen_lt sig
  have hn4 := blen_pos hs
  unfold r3
  split
  · rename_i hd0
    constructor
    · have h1 : sig * two (-drop).toNat < two (blen sig) * two (-drop).toNat := Nat.mul_lt_mul_of_pos_right hn2 (two_pos _)
      rw [← two_add] at h1
      have h2 := two_le (show blen sig + (-drop).toNat ≤ 24 by omega)
      rw [two_24] at h2
      show sig * two (-drop).toNat < 16777216
      omega
    · by_cases e : drop = -149 - exp
      · left; omega
      · right
        have h1 : two (blen sig - 1) * two (-drop).toNat ≤ sig * two (-drop).toNat := Nat.mul_le_mul_right _ hn1
        rw [← two_add] at h1
        have h2 := two_le (show 23 ≤ blen sig - 1 + (-drop).toNat by omega)
        rw [two_23] at h2
        show 8388608 ≤ sig * two (-drop).toNat
        omega
  · split
    · refine ⟨by show 0 < 16777216; omega, .inl ?_⟩; omega
    · constructor
      · show sig / two drop.toNat < 16777216
        rw [Nat.div_lt_iff_lt_mul (two_pos _), ← two_24, ← two_add]
        exact Nat.lt_of_lt_of_le hn2 (two_le (by omega))
      · by_cases e : drop = -149 - exp
        · left; omega
        · right
          show 8388608 ≤ sig / two drop.toNat
          rw [Nat.le_div_iff_mul_le (two_pos _), ← two_23, ← two_add]
          exact Nat.le_trans (two_le (by omega)) hn1
theorem roundP_r3 {way : Int} {neg : Bool} {exp drop : Int} {sig : Nat} {more : Bool} (h0 : ¬ sig = 0) (hlo : ¬ exp < -300) (hhi : ¬ 200 < exp) (hd : drop = max ((blen sig : Int) - 24) (-149 - exp)) :
    roundP way neg exp sig more = fin way neg ((exp + drop + 149).toNat * 8388608 + (r3 (blen sig) drop sig more).1) (r3 (blen sig) drop sig more).2.2.2 (r3 (blen sig) drop sig more).2.1 (r3 (blen sig) drop sig more).2.2.1 := by
  unfold roundP
  rw [if_neg (by omega), if_neg (by omega), if_neg hhi]
  dsimp only
  rw [← hd]
  unfold r3
  split
  · rfl
  · split
    · rfl
    · rfl
set_option maxRecDepth 100000 in
set_option maxHeartbeats 1600000 in
theorem round_any (way : Int) (neg : Bool) (exp : Int) (sig : Nat) (more : Bool) (w : World) (hs : sig < 18446744073709551616) (he : -9223372036854775808 ≤ exp ∧ exp ≤ 9223372036854775807) :
    Calls Try.prog 43 #[.int .i64 way, .bool neg, .int .i64 exp, .int .u64 (sig : Int), .bool more] w fun e w' => e = .returned (.int .u32 (roundP way neg exp sig more : Int)) ∧ w' = w := by
  have hn := blen_64 hs
  have hz := blen_eq_zero (s := sig)
  by_cases h0 : sig = 0
  · subst h0
    cases more
    · go_enter Try.func43, Try.ntmps43
      go_wp2_with (first
        | (go_at_call 58; refine (len_any 0 _ (by decide)).mono ?_; rintro e w' ⟨rfl, rfl⟩)
        | (go_at_call 68; refine (sign_any _ _).mono ?_; rintro e w' ⟨rfl, rfl⟩))
      go_ret
      exact ⟨rfl, rfl⟩
    · go_enter Try.func43, Try.ntmps43
      go_wp2_with (first
        | (go_at_call 58; refine (len_any 0 _ (by decide)).mono ?_; rintro e w' ⟨rfl, rfl⟩)
        | (go_at_call 70; refine (tiny_any _ _ _).mono ?_; rintro e w' ⟨rfl, rfl⟩))
      go_ret
      exact ⟨rfl, rfl⟩
  have h1 : ((blen sig : Int) == 0) = false := by rw [beq_eq_false_iff_ne]; intro e; exact h0 (hz.1 e)
  have hn0 : 1 ≤ blen sig := blen_pos (by omega)
  by_cases hlo : exp < -300
  · have HR : Hid (roundP way neg exp sig more = tinyP way neg) := Lib.hid (by unfold roundP; rw [if_neg (by omega), if_pos (.inr hlo)])
    go_enter Try.func43, Try.ntmps43
    go_wp2_with (first
      | (go_at_call 58; refine (len_any sig _ hs).mono ?_; rintro e w' ⟨rfl, rfl⟩)
      | (go_at_call 70; refine (tiny_any _ _ _).mono ?_; rintro e w' ⟨rfl, rfl⟩))
    go_ret
    exact ⟨by rw [HR.out]; rfl, rfl⟩
  by_cases hhi : 200 < exp
  · have HR : Hid (roundP way neg exp sig more = hugeP way neg) := Lib.hid (by unfold roundP; rw [if_neg (by omega), if_neg (by omega), if_pos hhi])
    go_enter Try.func43, Try.ntmps43
    go_wp2_with (first
      | (go_at_call 58; refine (len_any sig _ hs).mono ?_; rintro e w' ⟨rfl, rfl⟩)
      | (go_at_call 71; refine (huge_any _ _ _).mono ?_; rintro e w' ⟨rfl, rfl⟩))
    go_ret
    exact ⟨by rw [HR.out]; rfl, rfl⟩
  go_enter Try.func43, Try.ntmps43
  go_upto_block 1 with (first
      | (go_at_call 58; refine (len_any sig _ hs).mono ?_; rintro e w' ⟨rfl, rfl⟩))
  obtain ⟨drop, hdrop⟩ : ∃ d, d = max ((blen sig : Int) - 24) (-149 - exp) := ⟨_, rfl⟩
  rw [← hdrop]
  have hd1 : (blen sig : Int) - 24 ≤ drop := by omega
  have hd2 : -149 - exp ≤ drop := by omega
  have hd3 : drop = (blen sig : Int) - 24 ∨ drop = -149 - exp := by omega
  have HDROP := Lib.hid hdrop
  clear hdrop
  go_cut [13, 14, 15, 16, 17, 18] from 54 to 98 (fun m a t r _ _ wx => m = .int .u64 ((r3 (blen sig) drop sig more).1 : Int) ∧ a = .bool (r3 (blen sig) drop sig more).2.1 ∧ t = .bool (r3 (blen sig) drop sig more).2.2.1 ∧ r = .bool (r3 (blen sig) drop sig more).2.2.2 ∧ wx = w')
  case first =>
    by_cases hd0 : drop ≤ 0
    · have hm : sig * two (-drop).toNat < 16777216 := by
        have h1 : sig * two (-drop).toNat < two (blen sig) * two (-drop).toNat := Nat.mul_lt_mul_of_pos_right (blen_lt sig) (two_pos _)
        rw [← two_add] at h1
        have h2 := two_le (show blen sig + (-drop).toNat ≤ 24 by omega)
        rw [two_24] at h2
        omega
      have HR : Hid (r3 (blen sig) drop sig more = (sig * two (-drop).toNat, false, false, more)) := Lib.hid (by simp only [r3, if_pos hd0])
      have HM : Hid (IntKind.u64.wrap ((sig : Int) * 2 ^ (-drop).toNat) = ((sig * two (-drop).toNat : Nat) : Int)) := Lib.hid (by
        rw [two_cast, ← Int.natCast_mul, wrap64_nat (by omega)])
      clear hm
      go_wp2
      go_meet
      case rel => rw [HR.out]; exact ⟨congrArg (Value.int .u64) HM.out, rfl, rfl, rfl, rfl⟩
    · by_cases hdn : (blen sig : Int) < drop
      · have HR : Hid (r3 (blen sig) drop sig more = (0, false, false, true)) := Lib.hid (by simp [r3, hd0, hdn])
        go_wp2
        go_meet
        case rel => rw [HR.out]; exact ⟨rfl, rfl, rfl, rfl, rfl⟩
      · have hq := quo_cast sig drop.toNat
        have hl := and_low hs (show 1 ≤ drop.toNat by omega) (by omega)
        have hh := half_cast (d := drop.toNat) (by omega) (by omega)
        have hhp := two_pos (drop.toNat - 1)
        have HR : Hid (r3 (blen sig) drop sig more = (sig / two drop.toNat, decide (two (drop.toNat - 1) < sig % two drop.toNat) || (decide (sig % two drop.toNat = two (drop.toNat - 1)) && more),
            decide (sig % two drop.toNat = two (drop.toNat - 1)) && !more, decide (sig % two drop.toNat ≠ 0) || more)) := Lib.hid (by simp [r3, hd0, hdn])
        generalize sig % two drop.toNat = L at *
        generalize two (drop.toNat - 1) = H at *
        generalize sig / two drop.toNat = Q at *
        by_cases h1 : L < H
        · have c1 : (L : Int) < (H : Int) := by omega
          have c2 : ((L : Int) == (H : Int)) = false := by rw [beq_eq_false_iff_ne]; omega
          by_cases h2 : L = 0
          · subst h2
            have c3 : (((0 : Nat) : Int) != 0) = false := rfl
            go_wp2
            go_meet
            case rel => rw [HR.out, decide_eq_false (show ¬ H < 0 by omega), decide_eq_false (show ¬ 0 = H by omega), decide_eq_false (show ¬ 0 ≠ 0 by omega)]; exact ⟨rfl, by simp, by simp, by simp, rfl⟩
          · have c3 : ((L : Int) != 0) = true := by simp; omega
            go_wp2
            go_meet
            case rel => rw [HR.out, decide_eq_false (show ¬ H < L by omega), decide_eq_false (show ¬ L = H by omega), decide_eq_true (show L ≠ 0 by omega)]; exact ⟨rfl, by simp, by simp, by simp, rfl⟩
        · by_cases h2 : L = H
          · subst h2
            have c3 : ((L : Int) != 0) = true := by simp; omega
            go_wp2
            go_meet
            case rel => rw [HR.out, decide_eq_false (show ¬ L < L by omega), decide_eq_true (show L ≠ 0 by omega)]; exact ⟨rfl, by simp, by simp, by simp, rfl⟩
          · have c1 : (H : Int) < (L : Int) := by omega
            have c2 : ((L : Int) == (H : Int)) = false := by rw [beq_eq_false_iff_ne]; omega
            have c3 : ((L : Int) != 0) = true := by simp; omega
            go_wp2
            go_meet
            case rel => rw [HR.out, decide_eq_true (show H < L by omega), decide_eq_false (show ¬ L = H by omega), decide_eq_true (show L ≠ 0 by omega)]; exact ⟨rfl, by simp, by simp, by simp, rfl⟩
  case rest =>
    obtain ⟨rfl, rfl, rfl, rfl, rfl⟩ := hcut
    have HR := Lib.hid (roundP_r3 (way := way) (neg := neg) (more := more) h0 (by omega) (by omega) HDROP.out)
    obtain ⟨hM, hU⟩ := r3_facts (exp := exp) (drop := drop) (more := more) (Nat.pos_of_ne_zero h0) hd1 hd2 hd3
    generalize r3 (blen sig) drop sig more = q at *
    obtain ⟨M, A, T, Rr⟩ := q
    dsimp only at *
    go_upto_block 2 with fail
    go_cut [13] from 99 to 121 (fun m wx => m = .int .u64 ((if upB way neg M Rr A T = true then M + 1 else M : Nat) : Int) ∧ wx = wc)
    case first =>
      have hp := and_1 (M := M) (by omega)
      by_cases w1 : way = 1
      · subst w1
        cases Rr
        · go_wp2
          go_meet
          case rel => exact ⟨rfl, rfl⟩
        · cases ho : outw 1 neg
          all_goals
            go_wp2_with (go_at_call 72; refine (outwards_any _ _ _).mono ?_; rintro e w' ⟨rfl, rfl⟩)
            go_meet
            case rel => exact ⟨by simp [upB, ho], rfl⟩
      · by_cases w2 : way = 2
        · subst w2
          cases Rr
          · go_wp2
            go_meet
            case rel => exact ⟨rfl, rfl⟩
          · cases ho : outw 2 neg
            all_goals
              go_wp2_with (go_at_call 72; refine (outwards_any _ _ _).mono ?_; rintro e w' ⟨rfl, rfl⟩)
              go_meet
              case rel => exact ⟨by simp [upB, ho], rfl⟩
        · have e1 : (way == 1) = false := by simpa using w1
          have e2 : (way == 2) = false := by simpa using w2
          cases A
          · cases T
            · go_wp2
              go_meet
              case rel => exact ⟨by simp [upB, e1, e2], rfl⟩
            · by_cases hpar : M % 2 = 1
              · rw [hpar] at hp
                go_wp2
                go_meet
                case rel => exact ⟨by simp [upB, e1, e2, hpar], rfl⟩
              · rw [show M % 2 = 0 from by omega] at hp
                go_wp2
                go_meet
                case rel => exact ⟨by simp [upB, e1, e2, hpar], rfl⟩
          · go_wp2
            go_meet
            case rel => exact ⟨by simp [upB, e1, e2], rfl⟩
    case rest =>
      obtain ⟨rfl, rfl⟩ := hcut
      have HF := Lib.hid (fin_unit way neg (exp + drop + 149).toNat M Rr A T)
      have hM2 : (if upB way neg M Rr A T = true then M + 1 else M) ≤ 16777216 ∧ ((exp + drop + 149).toNat = 0 ∨ 8388608 ≤ (if upB way neg M Rr A T = true then M + 1 else M)) := by split <;> omega
      generalize (if upB way neg M Rr A T = true then M + 1 else M) = M2 at *
      obtain ⟨hM2, hU2⟩ := hM2
      have HE : Hid (roundP way neg exp sig more = finU way neg ((exp + drop + 149).toNat * 8388608 + M2)) := Lib.hid (by rw [HR.out, HF.out])
      clear HR HF hU hM
      by_cases m0 : M2 = 0
      · subst m0
        have HE2 : Hid (roundP way neg exp sig more = sgn neg) := Lib.hid (by rw [HE.out, show (exp + drop + 149).toNat * 8388608 + 0 = 0 from by omega]; rfl)
        go_wp2_with (go_at_call 68; refine (sign_any _ _).mono ?_; rintro e w' ⟨rfl, rfl⟩)
        go_ret
        exact ⟨by rw [HE2.out]; rfl, rfl⟩
      · have m1 : ((M2 : Int) == 0) = false := by rw [beq_eq_false_iff_ne]; omega
        by_cases u0 : 104 < exp + drop
        · have HE2 : Hid (roundP way neg exp sig more = hugeP way neg) := Lib.hid (by rw [HE.out, finU_huge (by omega)])
          go_wp2_with (go_at_call 71; refine (huge_any _ _ _).mono ?_; rintro e w' ⟨rfl, rfl⟩)
          go_ret
          exact ⟨by rw [HE2.out]; rfl, rfl⟩
        · by_cases u1 : 2139095040 ≤ (exp + drop + 149) * 8388608 + M2
          · have HE2 : Hid (roundP way neg exp sig more = hugeP way neg) := Lib.hid (by rw [HE.out, finU_huge (by omega)])
            go_wp2_with (go_at_call 71; refine (huge_any _ _ _).mono ?_; rintro e w' ⟨rfl, rfl⟩)
            go_ret
            exact ⟨by rw [HE2.out]; rfl, rfl⟩
          · have HE2 : Hid (roundP way neg exp sig more = sgn neg + ((exp + drop + 149).toNat * 8388608 + M2)) := Lib.hid (by rw [HE.out, finU_lt (by omega)])
            have ho := or_sign neg (y := (exp + drop + 149) * 8388608 + M2) (by omega) (by omega)
            have HO := Lib.hid ho
            clear ho
            go_wp2_with (go_at_call 68; refine (sign_any _ _).mono ?_; rintro e w' ⟨rfl, rfl⟩)
            go_ret
            exact ⟨by rw [HE2.out]; exact congrArg Ending.returned (congrArg (Value.int .u32) (HO.out.trans (by omega))), rfl⟩
end Go.Proofs.Ytanccobllehnaaa
