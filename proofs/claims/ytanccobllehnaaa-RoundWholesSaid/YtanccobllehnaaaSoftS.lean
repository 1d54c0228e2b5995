/- Contracts of soft's small functions. -/
import Derived.Test.YtanccobllehnaaaSoftR
import Derived.Test.YtanccobllehnaaaLen
import Derived.WalkKit
import Derived.Lib.Hide
import Derived.Laws.Bits64b
import Derived.Laws.ShiftsVarLaws
import Derived.Laws.BitsLemmas
namespace Go.Proofs.Ytanccobllehnaaa
open Go.RowKit

theorem blen_half (x : Nat) (h : 0 < x) : blen x = 1 + blen (x / 2) := by
  unfold blen
  rw [if_neg (by omega)]
  by_cases h2 : x / 2 = 0
  · rw [if_pos h2]
    have : x = 1 := by omega
    subst this
    rfl
  · rw [if_neg h2, Nat.log2_def, if_pos (by omega)]
    omega
theorem bitLen_blen : ∀ (f x : Nat), x < 2 ^ f → Lib.bitLenAux f x = blen x
  | 0, x, h => by
    have : x = 0 := by simpa using h
    subst this; rfl
  | f + 1, x, h => by
    unfold Lib.bitLenAux
    split
    · rename_i h0; subst h0; rfl
    · rename_i h0
      rw [bitLen_blen f (x / 2) (by rw [Nat.pow_succ] at h; omega), ← blen_half x (by omega)]
theorem len_any (x : Nat) (w : World) (h : x < 18446744073709551616) : Calls Try.prog 58 #[.int .u64 (x : Int)] w fun e w' => e = .returned (.int .i64 (blen x : Int)) ∧ w' = w := by
  refine (Try.bits_Len64 x w (by omega) (by omega)).mono ?_
  rintro e w' ⟨rfl, rfl⟩
  refine ⟨?_, rfl⟩
  have : Lib.bitLen x = blen x := bitLen_blen 64 x (by simpa using h)
  simp [this]

theorem sign_any (neg : Bool) (w : World) : Calls Try.prog 68 #[.bool neg] w fun e w' => e = .returned (.int .u32 (sgn neg : Int)) ∧ w' = w := by
  go_enter Try.func68, Try.ntmps68
  cases neg
  all_goals
    go_wp2
    go_ret
    exact ⟨rfl, rfl⟩
theorem outwards_any (way : Int) (neg : Bool) (w : World) : Calls Try.prog 72 #[.int .i64 way, .bool neg] w fun e w' => e = .returned (.bool (outw way neg)) ∧ w' = w := by
  go_enter Try.func72, Try.ntmps72
  cases neg
  all_goals
    by_cases h1 : way = 1
    · subst h1
      go_wp2
      go_ret
      exact ⟨rfl, rfl⟩
    · by_cases h2 : way = 2
      · subst h2
        go_wp2
        go_ret
        exact ⟨rfl, rfl⟩
      · have e1 : (way == 1) = false := by simpa using h1
        have e2 : (way == 2) = false := by simpa using h2
        go_wp2
        go_ret
        exact ⟨by simp [outw, e1, e2], rfl⟩
theorem wraps_u32 (n : Int) (h₀ : 0 ≤ n) (h₁ : n < 2 ^ 32) : IntKind.u32.wrap n = n := by rw [IntKind.wrap_u32]; omega
theorem or_sign (neg : Bool) {y : Int} (h0 : 0 ≤ y) (h : y < 2147483648) : bits .or .u32 (sgn neg : Int) y = (sgn neg : Int) + y := by
  have hs : sgn neg = 0 ∨ sgn neg = 2147483648 := by cases neg <;> simp [sgn]
  exact bits_join .u32 32 (by decide) wraps_u32 31 (sgn neg : Int) y (by omega) (by omega) (by omega) h0 (by omega) (by omega)
theorem tiny_any (way : Int) (neg : Bool) (w : World) : Calls Try.prog 70 #[.int .i64 way, .bool neg] w fun e w' => e = .returned (.int .u32 (tinyP way neg : Int)) ∧ w' = w := by
  have ho := or_sign neg (y := 1) (by decide) (by decide)
  go_enter Try.func70, Try.ntmps70
  cases h : outw way neg
  all_goals
    go_wp2_with (first
      | (go_at_call 72; refine (outwards_any way neg _).mono ?_; rintro e w' ⟨rfl, rfl⟩)
      | (go_at_call 68; refine (sign_any neg _).mono ?_; rintro e w' ⟨rfl, rfl⟩))
    go_ret
    exact ⟨by simp [tinyP, h], rfl⟩
theorem huge_any (way : Int) (neg : Bool) (w : World) : Calls Try.prog 71 #[.int .i64 way, .bool neg] w fun e w' => e = .returned (.int .u32 (hugeP way neg : Int)) ∧ w' = w := by
  have ho := or_sign neg (y := 2139095039) (by decide) (by decide)
  have ho' := or_sign neg (y := 2139095040) (by decide) (by decide)
  go_enter Try.func71, Try.ntmps71
  by_cases h1 : way = 1
  · subst h1
    cases neg
    all_goals
      go_wp2_with (first
        | (go_at_call 72; refine (outwards_any _ _ _).mono ?_; rintro e w' ⟨rfl, rfl⟩)
        | (go_at_call 68; refine (sign_any _ _).mono ?_; rintro e w' ⟨rfl, rfl⟩))
      all_goals
        go_ret
        exact ⟨rfl, rfl⟩
  · by_cases h2 : way = 2
    · subst h2
      cases neg
      all_goals
        go_wp2_with (first
          | (go_at_call 72; refine (outwards_any _ _ _).mono ?_; rintro e w' ⟨rfl, rfl⟩)
          | (go_at_call 68; refine (sign_any _ _).mono ?_; rintro e w' ⟨rfl, rfl⟩))
        all_goals
          go_ret
          exact ⟨rfl, rfl⟩
    · have e1 : (way == 1) = false := by simpa using h1
      have e2 : (way == 2) = false := by simpa using h2
      go_wp2_with (first
        | (go_at_call 72; refine (outwards_any _ _ _).mono ?_; rintro e w' ⟨rfl, rfl⟩)
        | (go_at_call 68; refine (sign_any _ _).mono ?_; rintro e w' ⟨rfl, rfl⟩))
      go_ret
      exact ⟨by simp [hugeP, inw, e1, e2], rfl⟩
end Go.Proofs.Ytanccobllehnaaa
