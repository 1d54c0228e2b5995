/- Contracts of Min and Max, of both sides. -/
import Derived.Test.YtkdlkjoeoahfpaaLooks
namespace Go.Proofs.Ytkdlkjoeoahfpaa
open Go.RowKit

def minP (a b : Nat) : Nat := if placeP a = placeP b then (if 2147483648 ≤ a then a else b) else if placeP b < placeP a then b else a
def maxP (a b : Nat) : Nat := if placeP a = placeP b then (if 2147483648 ≤ a then b else a) else if placeP a < placeP b then b else a
theorem place_cases {a b : Nat} (ha : a < 4294967296) (hb : b < 4294967296) (h : placeP a = placeP b) : a = b ∨ (a = 0 ∧ b = 2147483648) ∨ (a = 2147483648 ∧ b = 0) := by
  unfold placeP at h
  split at h <;> split at h <;> omega
theorem or_place {a b : Nat} (ha : a < 4294967296) (hb : b < 4294967296) (h : placeP a = placeP b) : bits .or .u32 (a : Int) (b : Int) = (((if 2147483648 ≤ a then a else b) : Nat) : Int) := by
  rcases place_cases ha hb h with rfl | ⟨rfl, rfl⟩ | ⟨rfl, rfl⟩
  · rw [(bits_nat .u32 32 (by decide) wraps_u32 a a (by omega) (by omega)).2, Nat.or_self]
    split <;> rfl
  · rfl
  · rfl
theorem and_place {a b : Nat} (ha : a < 4294967296) (hb : b < 4294967296) (h : placeP a = placeP b) : bits .and .u32 (a : Int) (b : Int) = (((if 2147483648 ≤ a then b else a) : Nat) : Int) := by
  rcases place_cases ha hb h with rfl | ⟨rfl, rfl⟩ | ⟨rfl, rfl⟩
  · rw [(bits_nat .u32 32 (by decide) wraps_u32 a a (by omega) (by omega)).1, Nat.and_self]
    split <;> rfl
  · rfl
  · rfl
theorem equal_at {a b : Nat} {r : Bool} {w : World} (h : Hid (a < 4294967296)) (h' : Hid (b < 4294967296)) (hr : Hid (equalP a b = r)) : Calls Try.prog 36 #[.int .u32 (a : Int), .int .u32 (b : Int)] w fun e w' => e = .returned (.bool r) ∧ w' = w := by
  have := equal_any a b w h.out h'.out
  rw [hr.out] at this
  exact this
theorem less_at {a b : Nat} {r : Bool} {w : World} (h : Hid (a < 4294967296)) (h' : Hid (b < 4294967296)) (hr : Hid (lessP a b = r)) : Calls Try.prog 20 #[.int .u32 (a : Int), .int .u32 (b : Int)] w fun e w' => e = .returned (.bool r) ∧ w' = w := by
  have := less_any a b w h.out h'.out
  rw [hr.out] at this
  exact this
section
variable {a b : Nat} {w : World} (h : Hid (a < 4294967296)) (h' : Hid (b < 4294967296))
include h h'
set_option maxRecDepth 100000 in
theorem min_no (hn : nanP a = true ∨ nanP b = true) : Calls Try.prog 43 #[.int .u32 (a : Int), .int .u32 (b : Int)] w fun e w' => e = .returned (.int .u32 2143289344) ∧ w' = w := by
  cases ha : nanP a
  · have hb : nanP b = true := by
      rcases hn with e | e
      · rw [ha] at e; cases e
      · exact e
    have HNA := Lib.hid ha
    have HNB := Lib.hid hb
    clear ha hb hn
    go_enter Try.func43, Try.ntmps43
    go_wp2_with fail
    refine (nan_at h HNA).mono ?_
    rintro e w' ⟨rfl, rfl⟩
    go_wp2_with fail
    refine (nan_at h' HNB).mono ?_
    rintro e w' ⟨rfl, rfl⟩
    go_wp2
    go_ret
    exact ⟨rfl, rfl⟩
  · have HNA := Lib.hid ha
    clear ha hn
    go_enter Try.func43, Try.ntmps43
    go_wp2_with fail
    refine (nan_at h HNA).mono ?_
    rintro e w' ⟨rfl, rfl⟩
    go_wp2
    go_ret
    exact ⟨rfl, rfl⟩
set_option maxRecDepth 100000 in
theorem max_no (hn : nanP a = true ∨ nanP b = true) : Calls Try.prog 45 #[.int .u32 (a : Int), .int .u32 (b : Int)] w fun e w' => e = .returned (.int .u32 2143289344) ∧ w' = w := by
  cases ha : nanP a
  · have hb : nanP b = true := by
      rcases hn with e | e
      · rw [ha] at e; cases e
      · exact e
    have HNA := Lib.hid ha
    have HNB := Lib.hid hb
    clear ha hb hn
    go_enter Try.func45, Try.ntmps45
    go_wp2_with fail
    refine (nan_at h HNA).mono ?_
    rintro e w' ⟨rfl, rfl⟩
    go_wp2_with fail
    refine (nan_at h' HNB).mono ?_
    rintro e w' ⟨rfl, rfl⟩
    go_wp2
    go_ret
    exact ⟨rfl, rfl⟩
  · have HNA := Lib.hid ha
    clear ha hn
    go_enter Try.func45, Try.ntmps45
    go_wp2_with fail
    refine (nan_at h HNA).mono ?_
    rintro e w' ⟨rfl, rfl⟩
    go_wp2
    go_ret
    exact ⟨rfl, rfl⟩
set_option maxRecDepth 100000 in
theorem min_yes (HNA : Hid (nanP a = false)) (HNB : Hid (nanP b = false)) : Calls Try.prog 43 #[.int .u32 (a : Int), .int .u32 (b : Int)] w fun e w' => e = .returned (.int .u32 (minP a b : Int)) ∧ w' = w := by
  by_cases he : placeP a = placeP b
  · have HE : Hid (equalP a b = true) := Lib.hid (by unfold equalP; rw [HNA.out, HNB.out, decide_eq_true he]; rfl)
    have HR := Lib.hid (or_place h.out h'.out he)
    have HP : Hid (minP a b = _) := Lib.hid (by unfold minP; rw [if_pos he])
    clear he
    go_enter Try.func43, Try.ntmps43
    go_wp2_with fail
    refine (nan_at h HNA).mono ?_
    rintro e w' ⟨rfl, rfl⟩
    go_wp2_with fail
    refine (nan_at h' HNB).mono ?_
    rintro e w' ⟨rfl, rfl⟩
    go_wp2_with fail
    refine (equal_at h h' HE).mono ?_
    rintro e w' ⟨rfl, rfl⟩
    go_wp2
    go_ret
    exact ⟨by rw [HP.out]; exact congrArg Ending.returned (congrArg (Value.int .u32) HR.out), rfl⟩
  · have HE : Hid (equalP a b = false) := Lib.hid (by unfold equalP; rw [HNA.out, HNB.out, decide_eq_false he]; rfl)
    by_cases hl : placeP b < placeP a
    · have HL : Hid (lessP b a = true) := Lib.hid (by unfold lessP; rw [HNA.out, HNB.out, decide_eq_true hl]; rfl)
      have HP : Hid (minP a b = b) := Lib.hid (by unfold minP; rw [if_neg he, if_pos hl])
      clear he hl
      go_enter Try.func43, Try.ntmps43
      go_wp2_with fail
      refine (nan_at h HNA).mono ?_
      rintro e w' ⟨rfl, rfl⟩
      go_wp2_with fail
      refine (nan_at h' HNB).mono ?_
      rintro e w' ⟨rfl, rfl⟩
      go_wp2_with fail
      refine (equal_at h h' HE).mono ?_
      rintro e w' ⟨rfl, rfl⟩
      go_wp2_with fail
      refine (less_at h' h HL).mono ?_
      rintro e w' ⟨rfl, rfl⟩
      go_wp2
      go_ret
      exact ⟨by rw [HP.out]; rfl, rfl⟩
    · have HL : Hid (lessP b a = false) := Lib.hid (by unfold lessP; rw [HNA.out, HNB.out, decide_eq_false hl]; rfl)
      have HP : Hid (minP a b = a) := Lib.hid (by unfold minP; rw [if_neg he, if_neg hl])
      clear he hl
      go_enter Try.func43, Try.ntmps43
      go_wp2_with fail
      refine (nan_at h HNA).mono ?_
      rintro e w' ⟨rfl, rfl⟩
      go_wp2_with fail
      refine (nan_at h' HNB).mono ?_
      rintro e w' ⟨rfl, rfl⟩
      go_wp2_with fail
      refine (equal_at h h' HE).mono ?_
      rintro e w' ⟨rfl, rfl⟩
      go_wp2_with fail
      refine (less_at h' h HL).mono ?_
      rintro e w' ⟨rfl, rfl⟩
      go_wp2
      go_ret
      exact ⟨by rw [HP.out]; rfl, rfl⟩
set_option maxRecDepth 100000 in
theorem max_yes (HNA : Hid (nanP a = false)) (HNB : Hid (nanP b = false)) : Calls Try.prog 45 #[.int .u32 (a : Int), .int .u32 (b : Int)] w fun e w' => e = .returned (.int .u32 (maxP a b : Int)) ∧ w' = w := by
  by_cases he : placeP a = placeP b
  · have HE : Hid (equalP a b = true) := Lib.hid (by unfold equalP; rw [HNA.out, HNB.out, decide_eq_true he]; rfl)
    have HR := Lib.hid (and_place h.out h'.out he)
    have HP : Hid (maxP a b = _) := Lib.hid (by unfold maxP; rw [if_pos he])
    clear he
    go_enter Try.func45, Try.ntmps45
    go_wp2_with fail
    refine (nan_at h HNA).mono ?_
    rintro e w' ⟨rfl, rfl⟩
    go_wp2_with fail
    refine (nan_at h' HNB).mono ?_
    rintro e w' ⟨rfl, rfl⟩
    go_wp2_with fail
    refine (equal_at h h' HE).mono ?_
    rintro e w' ⟨rfl, rfl⟩
    go_wp2
    go_ret
    exact ⟨by rw [HP.out]; exact congrArg Ending.returned (congrArg (Value.int .u32) HR.out), rfl⟩
  · have HE : Hid (equalP a b = false) := Lib.hid (by unfold equalP; rw [HNA.out, HNB.out, decide_eq_false he]; rfl)
    by_cases hl : placeP a < placeP b
    · have HL : Hid (lessP a b = true) := Lib.hid (by unfold lessP; rw [HNA.out, HNB.out, decide_eq_true hl]; rfl)
      have HP : Hid (maxP a b = b) := Lib.hid (by unfold maxP; rw [if_neg he, if_pos hl])
      clear he hl
      go_enter Try.func45, Try.ntmps45
      go_wp2_with fail
      refine (nan_at h HNA).mono ?_
      rintro e w' ⟨rfl, rfl⟩
      go_wp2_with fail
      refine (nan_at h' HNB).mono ?_
      rintro e w' ⟨rfl, rfl⟩
      go_wp2_with fail
      refine (equal_at h h' HE).mono ?_
      rintro e w' ⟨rfl, rfl⟩
      go_wp2_with fail
      refine (less_at h h' HL).mono ?_
      rintro e w' ⟨rfl, rfl⟩
      go_wp2
      go_ret
      exact ⟨by rw [HP.out]; rfl, rfl⟩
    · have HL : Hid (lessP a b = false) := Lib.hid (by unfold lessP; rw [HNA.out, HNB.out, decide_eq_false hl]; rfl)
      have HP : Hid (maxP a b = a) := Lib.hid (by unfold maxP; rw [if_neg he, if_neg hl])
      clear he hl
      go_enter Try.func45, Try.ntmps45
      go_wp2_with fail
      refine (nan_at h HNA).mono ?_
      rintro e w' ⟨rfl, rfl⟩
      go_wp2_with fail
      refine (nan_at h' HNB).mono ?_
      rintro e w' ⟨rfl, rfl⟩
      go_wp2_with fail
      refine (equal_at h h' HE).mono ?_
      rintro e w' ⟨rfl, rfl⟩
      go_wp2_with fail
      refine (less_at h h' HL).mono ?_
      rintro e w' ⟨rfl, rfl⟩
      go_wp2
      go_ret
      exact ⟨by rw [HP.out]; rfl, rfl⟩
set_option maxRecDepth 100000 in
theorem rmin_no (hn : nanP a = true ∨ nanP b = true) : Calls Try.prog 44 #[.int .u32 (a : Int), .int .u32 (b : Int)] w fun e w' => e = .returned (.int .u32 2143289344) ∧ w' = w := by
  go_enter Try.func44, Try.ntmps44
  go_wp2_with fail
  refine (compared_no h h' hn).mono ?_
  rintro e w' ⟨rfl, rfl⟩
  go_wp2
  go_ret
  exact ⟨rfl, rfl⟩
set_option maxRecDepth 100000 in
theorem rmax_no (hn : nanP a = true ∨ nanP b = true) : Calls Try.prog 46 #[.int .u32 (a : Int), .int .u32 (b : Int)] w fun e w' => e = .returned (.int .u32 2143289344) ∧ w' = w := by
  go_enter Try.func46, Try.ntmps46
  go_wp2_with fail
  refine (compared_no h h' hn).mono ?_
  rintro e w' ⟨rfl, rfl⟩
  go_wp2
  go_ret
  exact ⟨rfl, rfl⟩
set_option maxRecDepth 100000 in
theorem rmin_yes (HNA : Hid (nanP a = false)) (HNB : Hid (nanP b = false)) : Calls Try.prog 44 #[.int .u32 (a : Int), .int .u32 (b : Int)] w fun e w' => e = .returned (.int .u32 (minP a b : Int)) ∧ w' = w := by
  by_cases h1 : placeP a < placeP b
  · have HC := Lib.hid (cmp_lt h1)
    have HP : Hid (minP a b = a) := Lib.hid (by unfold minP; rw [if_neg (by omega), if_neg (by omega)])
    clear h1
    go_enter Try.func44, Try.ntmps44
    go_wp2_with fail
    refine (compared_yes h h' HNA HNB).mono ?_
    rintro e w' ⟨rfl, rfl⟩
    rw [HC.out]
    go_wp2
    go_ret
    exact ⟨by rw [HP.out]; rfl, rfl⟩
  by_cases h2 : placeP b < placeP a
  · have HC := Lib.hid (cmp_gt h2)
    have HP : Hid (minP a b = b) := Lib.hid (by unfold minP; rw [if_neg (by omega), if_pos h2])
    clear h1 h2
    go_enter Try.func44, Try.ntmps44
    go_wp2_with fail
    refine (compared_yes h h' HNA HNB).mono ?_
    rintro e w' ⟨rfl, rfl⟩
    rw [HC.out]
    go_wp2
    go_ret
    exact ⟨by rw [HP.out]; rfl, rfl⟩
  have he : placeP a = placeP b := by omega
  have HC := Lib.hid (cmp_eq he)
  by_cases hb : 2147483648 ≤ a
  · have HBL : Hid (decide (2147483648 ≤ a) = true) := Lib.hid (decide_eq_true hb)
    have HP : Hid (minP a b = a) := Lib.hid (by unfold minP; rw [if_pos he, if_pos hb])
    clear h1 h2 he hb
    go_enter Try.func44, Try.ntmps44
    go_wp2_with fail
    refine (compared_yes h h' HNA HNB).mono ?_
    rintro e w' ⟨rfl, rfl⟩
    rw [HC.out]
    go_wp2_with fail
    refine (rbelow_at HBL).mono ?_
    rintro e w' ⟨rfl, rfl⟩
    go_wp2
    go_ret
    exact ⟨by rw [HP.out]; rfl, rfl⟩
  · have HBL : Hid (decide (2147483648 ≤ a) = false) := Lib.hid (decide_eq_false hb)
    have HP : Hid (minP a b = b) := Lib.hid (by unfold minP; rw [if_pos he, if_neg hb])
    clear h1 h2 he hb
    go_enter Try.func44, Try.ntmps44
    go_wp2_with fail
    refine (compared_yes h h' HNA HNB).mono ?_
    rintro e w' ⟨rfl, rfl⟩
    rw [HC.out]
    go_wp2_with fail
    refine (rbelow_at HBL).mono ?_
    rintro e w' ⟨rfl, rfl⟩
    go_wp2
    go_ret
    exact ⟨by rw [HP.out]; rfl, rfl⟩
set_option maxRecDepth 100000 in
theorem rmax_yes (HNA : Hid (nanP a = false)) (HNB : Hid (nanP b = false)) : Calls Try.prog 46 #[.int .u32 (a : Int), .int .u32 (b : Int)] w fun e w' => e = .returned (.int .u32 (maxP a b : Int)) ∧ w' = w := by
  by_cases h1 : placeP a < placeP b
  · have HC := Lib.hid (cmp_lt h1)
    have HP : Hid (maxP a b = b) := Lib.hid (by unfold maxP; rw [if_neg (by omega), if_pos h1])
    clear h1
    go_enter Try.func46, Try.ntmps46
    go_wp2_with fail
    refine (compared_yes h h' HNA HNB).mono ?_
    rintro e w' ⟨rfl, rfl⟩
    rw [HC.out]
    go_wp2
    go_ret
    exact ⟨by rw [HP.out]; rfl, rfl⟩
  by_cases h2 : placeP b < placeP a
  · have HC := Lib.hid (cmp_gt h2)
    have HP : Hid (maxP a b = a) := Lib.hid (by unfold maxP; rw [if_neg (by omega), if_neg (by omega)])
    clear h1 h2
    go_enter Try.func46, Try.ntmps46
    go_wp2_with fail
    refine (compared_yes h h' HNA HNB).mono ?_
    rintro e w' ⟨rfl, rfl⟩
    rw [HC.out]
    go_wp2
    go_ret
    exact ⟨by rw [HP.out]; rfl, rfl⟩
  have he : placeP a = placeP b := by omega
  have HC := Lib.hid (cmp_eq he)
  by_cases hb : 2147483648 ≤ a
  · have HBL : Hid (decide (2147483648 ≤ a) = true) := Lib.hid (decide_eq_true hb)
    have HP : Hid (maxP a b = b) := Lib.hid (by unfold maxP; rw [if_pos he, if_pos hb])
    clear h1 h2 he hb
    go_enter Try.func46, Try.ntmps46
    go_wp2_with fail
    refine (compared_yes h h' HNA HNB).mono ?_
    rintro e w' ⟨rfl, rfl⟩
    rw [HC.out]
    go_wp2_with fail
    refine (rbelow_at HBL).mono ?_
    rintro e w' ⟨rfl, rfl⟩
    go_wp2
    go_ret
    exact ⟨by rw [HP.out]; rfl, rfl⟩
  · have HBL : Hid (decide (2147483648 ≤ a) = false) := Lib.hid (decide_eq_false hb)
    have HP : Hid (maxP a b = a) := Lib.hid (by unfold maxP; rw [if_pos he, if_neg hb])
    clear h1 h2 he hb
    go_enter Try.func46, Try.ntmps46
    go_wp2_with fail
    refine (compared_yes h h' HNA HNB).mono ?_
    rintro e w' ⟨rfl, rfl⟩
    rw [HC.out]
    go_wp2_with fail
    refine (rbelow_at HBL).mono ?_
    rintro e w' ⟨rfl, rfl⟩
    go_wp2
    go_ret
    exact ⟨by rw [HP.out]; rfl, rfl⟩
end
end Go.Proofs.Ytkdlkjoeoahfpaa
