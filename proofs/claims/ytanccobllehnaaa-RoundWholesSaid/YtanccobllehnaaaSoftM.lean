/- Contracts of soft's looks: Abs, NaN, Inf, Neg, nought, place, Less, Equal, Canon. -/
import Derived.Test.YtanccobllehnaaaSoftO
import Derived.Laws.BitsAllLaws
namespace Go.Proofs.Ytanccobllehnaaa
open Go.RowKit

def absP (a : Nat) : Nat := a % 2147483648
def negP (a : Nat) : Nat := if a < 2147483648 then a + 2147483648 else a - 2147483648
def nanP (a : Nat) : Bool := decide (2139095040 < a % 2147483648)
def infP (a : Nat) : Bool := decide (a % 2147483648 = 2139095040)
def placeP (a : Nat) : Int := if 2147483648 ≤ a then -((a % 2147483648 : Nat) : Int) else ((a % 2147483648 : Nat) : Int)
def lessP (a b : Nat) : Bool := !nanP a && !nanP b && decide (placeP a < placeP b)
def equalP (a b : Nat) : Bool := !nanP a && !nanP b && decide (placeP a = placeP b)
def canonP (a : Nat) : Nat := if nanP a = true then 2143289344 else a

theorem abs_bits {a : Nat} (h : a < 4294967296) : bits .andNot .u32 (a : Int) 2147483648 = ((a % 2147483648 : Nat) : Int) := by
  have := u32_andNot_nat a 2147483648 h (by decide)
  rw [show 4294967295 - 2147483648 = 2 ^ 31 - 1 from rfl, Nat.and_two_pow_sub_one_eq_mod] at this
  exact this
theorem flip_low {b : Nat} (h : b < 2147483648) : b ^^^ 2147483648 = b + 2147483648 := by
  apply Nat.eq_of_testBit_eq
  intro i
  rw [Nat.testBit_xor, show (2147483648 : Nat) = 2 ^ 31 from rfl, Nat.testBit_two_pow, Nat.add_comm b]
  by_cases h1 : i = 31
  · subst h1
    rw [Nat.testBit_two_pow_add_eq]
    simp
  · by_cases h2 : i < 31
    · rw [Nat.testBit_two_pow_add_gt h2, decide_eq_false (show ¬ 31 = i by omega)]
      simp
    · rw [Nat.testBit_lt_two_pow (x := b) (Nat.lt_of_lt_of_le h (Nat.pow_le_pow_right (n := 2) (by omega) (show 31 ≤ i by omega))),
        Nat.testBit_lt_two_pow (x := 2 ^ 31 + b) (Nat.lt_of_lt_of_le (show 2 ^ 31 + b < 2 ^ 32 by omega) (Nat.pow_le_pow_right (n := 2) (by omega) (show 32 ≤ i by omega))), decide_eq_false (show ¬ 31 = i by omega)]
      simp
theorem neg_bits {a : Nat} (h : a < 4294967296) : bits .xor .u32 (a : Int) 2147483648 = ((negP a : Nat) : Int) := by
  have := u32_xor_nat a 2147483648 h (by decide)
  have e : a ^^^ 2147483648 = negP a := by
    unfold negP
    split
    · rename_i hl; exact flip_low hl
    · have hb := flip_low (b := a - 2147483648) (by omega)
      rw [show a - 2147483648 + 2147483648 = a from by omega] at hb
      conv => lhs; rw [← hb]
      rw [Nat.xor_assoc, Nat.xor_self, Nat.xor_zero]
  rw [e] at this
  exact this
theorem abs_any (a : Nat) (w : World) (h : a < 4294967296) : Calls Try.prog 57 #[.int .u32 (a : Int)] w fun e w' => e = .returned (.int .u32 (absP a : Int)) ∧ w' = w := by
  have hb := abs_bits h
  go_enter Try.func57, Try.ntmps57
  go_wp2
  go_ret
  exact ⟨rfl, rfl⟩
theorem nan_any (a : Nat) (w : World) (h : a < 4294967296) : Calls Try.prog 36 #[.int .u32 (a : Int)] w fun e w' => e = .returned (.bool (nanP a)) ∧ w' = w := by
  have hn : decide (2139095040 < ((absP a : Nat) : Int)) = nanP a := by unfold nanP absP; congr 1; apply propext; omega
  go_enter Try.func36, Try.ntmps36
  go_wp2_with (go_at_call 57; refine (abs_any a _ h).mono ?_; rintro e w' ⟨rfl, rfl⟩)
  go_ret
  exact ⟨by first | rfl | rw [← hn]; rfl, rfl⟩
theorem inf_any (a : Nat) (w : World) (h : a < 4294967296) : Calls Try.prog 34 #[.int .u32 (a : Int)] w fun e w' => e = .returned (.bool (infP a)) ∧ w' = w := by
  have hn : (((absP a : Nat) : Int) == 2139095040) = infP a := by
    unfold infP absP
    by_cases hh : a % 2147483648 = 2139095040
    · rw [decide_eq_true hh, beq_iff_eq]; omega
    · rw [decide_eq_false hh, beq_eq_false_iff_ne]; omega
  go_enter Try.func34, Try.ntmps34
  go_wp2_with (go_at_call 57; refine (abs_any a _ h).mono ?_; rintro e w' ⟨rfl, rfl⟩)
  go_ret
  exact ⟨by first | rfl | rw [← hn]; rfl, rfl⟩
theorem nought_any (way : Int) (w : World) : Calls Try.prog 69 #[.int .i64 way] w fun e w' => e = .returned (.int .u32 (sgn (way == 2) : Int)) ∧ w' = w := by
  go_enter Try.func69, Try.ntmps69
  go_wp2_with (go_at_call 68; refine (sign_any _ _).mono ?_; rintro e w' ⟨rfl, rfl⟩)
  go_ret
  exact ⟨rfl, rfl⟩
theorem place_any (a : Nat) (w : World) (h : a < 4294967296) : Calls Try.prog 66 #[.int .u32 (a : Int)] w fun e w' => e = .returned (.int .i64 (placeP a)) ∧ w' = w := by
  have ha : absP a < 2147483648 := by unfold absP; omega
  by_cases hh : 2147483648 ≤ a
  · have h3 : (a : Int) / 2147483648 = 1 := by omega
    have hp : placeP a = -((absP a : Nat) : Int) := by unfold placeP absP; rw [if_pos hh]
    go_enter Try.func66, Try.ntmps66
    go_wp2_with (go_at_call 57; refine (abs_any a _ h).mono ?_; rintro e w' ⟨rfl, rfl⟩)
    go_ret
    exact ⟨by rw [hp]; rfl, rfl⟩
  · have h3 : (a : Int) / 2147483648 = 0 := by omega
    have hp : placeP a = ((absP a : Nat) : Int) := by unfold placeP absP; rw [if_neg hh]
    go_enter Try.func66, Try.ntmps66
    go_wp2_with (go_at_call 57; refine (abs_any a _ h).mono ?_; rintro e w' ⟨rfl, rfl⟩)
    go_ret
    exact ⟨by rw [hp]; rfl, rfl⟩
theorem nan_at {a : Nat} {b : Bool} {w : World} (h : Hid (a < 4294967296)) (hb : Hid (nanP a = b)) : Calls Try.prog 36 #[.int .u32 (a : Int)] w fun e w' => e = .returned (.bool b) ∧ w' = w := by
  have := nan_any a w h.out
  rw [hb.out] at this
  exact this
theorem place_at {a : Nat} {b : Int} {w : World} (h : Hid (a < 4294967296)) (hb : Hid (placeP a = b)) : Calls Try.prog 66 #[.int .u32 (a : Int)] w fun e w' => e = .returned (.int .i64 b) ∧ w' = w := by
  have := place_any a w h.out
  rw [hb.out] at this
  exact this
set_option maxRecDepth 100000 in
theorem less_any (a b : Nat) (w : World) (h : a < 4294967296) (h' : b < 4294967296) : Calls Try.prog 33 #[.int .u32 (a : Int), .int .u32 (b : Int)] w fun e w' => e = .returned (.bool (lessP a b)) ∧ w' = w := by
  have HA := Lib.hid h
  have HB := Lib.hid h'
  clear h h'
  obtain ⟨pa, hpa⟩ : ∃ p, placeP a = p := ⟨_, rfl⟩
  obtain ⟨pb, hpb⟩ : ∃ p, placeP b = p := ⟨_, rfl⟩
  have HPA := Lib.hid hpa
  have HPB := Lib.hid hpb
  clear hpa hpb
  cases ha : nanP a
  · have HNA := Lib.hid ha
    clear ha
    cases hb : nanP b
    · have HNB := Lib.hid hb
      clear hb
      go_enter Try.func33, Try.ntmps33
      go_wp2_with fail
      refine (nan_at HA HNA).mono ?_
      rintro e w' ⟨rfl, rfl⟩
      go_wp2_with fail
      refine (nan_at HB HNB).mono ?_
      rintro e w' ⟨rfl, rfl⟩
      go_wp2_with fail
      refine (place_at HA HPA).mono ?_
      rintro e w' ⟨rfl, rfl⟩
      go_wp2_with fail
      refine (place_at HB HPB).mono ?_
      rintro e w' ⟨rfl, rfl⟩
      go_wp2
      go_ret
      exact ⟨by rw [show lessP a b = decide (pa < pb) from by unfold lessP; rw [HNA.out, HNB.out, HPA.out, HPB.out]; rfl]; rfl, rfl⟩
    · have HNB := Lib.hid hb
      clear hb
      go_enter Try.func33, Try.ntmps33
      go_wp2_with fail
      refine (nan_at HA HNA).mono ?_
      rintro e w' ⟨rfl, rfl⟩
      go_wp2_with fail
      refine (nan_at HB HNB).mono ?_
      rintro e w' ⟨rfl, rfl⟩
      go_wp2
      go_ret
      exact ⟨by rw [show lessP a b = false from by unfold lessP; rw [HNA.out, HNB.out]; rfl]; rfl, rfl⟩
  · have HNA := Lib.hid ha
    clear ha
    go_enter Try.func33, Try.ntmps33
    go_wp2_with fail
    refine (nan_at HA HNA).mono ?_
    rintro e w' ⟨rfl, rfl⟩
    go_wp2
    go_ret
    exact ⟨by rw [show lessP a b = false from by unfold lessP; rw [HNA.out]; rfl]; rfl, rfl⟩
set_option maxRecDepth 100000 in
theorem equal_any (a b : Nat) (w : World) (h : a < 4294967296) (h' : b < 4294967296) : Calls Try.prog 37 #[.int .u32 (a : Int), .int .u32 (b : Int)] w fun e w' => e = .returned (.bool (equalP a b)) ∧ w' = w := by
  have HA := Lib.hid h
  have HB := Lib.hid h'
  clear h h'
  obtain ⟨pa, hpa⟩ : ∃ p, placeP a = p := ⟨_, rfl⟩
  obtain ⟨pb, hpb⟩ : ∃ p, placeP b = p := ⟨_, rfl⟩
  have HPA := Lib.hid hpa
  have HPB := Lib.hid hpb
  clear hpa hpb
  cases ha : nanP a
  · have HNA := Lib.hid ha
    clear ha
    cases hb : nanP b
    · have HNB := Lib.hid hb
      clear hb
      go_enter Try.func37, Try.ntmps37
      go_wp2_with fail
      refine (nan_at HA HNA).mono ?_
      rintro e w' ⟨rfl, rfl⟩
      go_wp2_with fail
      refine (nan_at HB HNB).mono ?_
      rintro e w' ⟨rfl, rfl⟩
      go_wp2_with fail
      refine (place_at HA HPA).mono ?_
      rintro e w' ⟨rfl, rfl⟩
      go_wp2_with fail
      refine (place_at HB HPB).mono ?_
      rintro e w' ⟨rfl, rfl⟩
      go_wp2
      go_ret
      exact ⟨by rw [show equalP a b = decide (pa = pb) from by unfold equalP; rw [HNA.out, HNB.out, HPA.out, HPB.out]; rfl]; rfl, rfl⟩
    · have HNB := Lib.hid hb
      clear hb
      go_enter Try.func37, Try.ntmps37
      go_wp2_with fail
      refine (nan_at HA HNA).mono ?_
      rintro e w' ⟨rfl, rfl⟩
      go_wp2_with fail
      refine (nan_at HB HNB).mono ?_
      rintro e w' ⟨rfl, rfl⟩
      go_wp2
      go_ret
      exact ⟨by rw [show equalP a b = false from by unfold equalP; rw [HNA.out, HNB.out]; rfl]; rfl, rfl⟩
  · have HNA := Lib.hid ha
    clear ha
    go_enter Try.func37, Try.ntmps37
    go_wp2_with fail
    refine (nan_at HA HNA).mono ?_
    rintro e w' ⟨rfl, rfl⟩
    go_wp2
    go_ret
    exact ⟨by rw [show equalP a b = false from by unfold equalP; rw [HNA.out]; rfl]; rfl, rfl⟩
end Go.Proofs.Ytanccobllehnaaa
