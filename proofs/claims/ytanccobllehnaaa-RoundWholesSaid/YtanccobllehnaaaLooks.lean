/- Contracts of Min and Max, and of the document's looks. -/
import Derived.Test.YtanccobllehnaaaSwapP
import Derived.Test.YtanccobllehnaaaSoftL
namespace Go.Proofs.Ytanccobllehnaaa
open Go.RowKit

theorem rabs_any (a : Nat) (w : World) (h : Hid (a < 4294967296)) : Calls Try.prog 47 #[.int .u32 (a : Int)] w fun e w' => e = .returned (.int .u32 (absP a : Int)) ∧ w' = w := by
  have hh := h.out
  have he : (a : Int) % 2147483648 = ((absP a : Nat) : Int) := by unfold absP; omega
  go_enter Try.func47, Try.ntmps47
  go_wp2
  go_ret
  exact ⟨congrArg Ending.returned (congrArg (Value.int .u32) (by first | rfl | exact he)), rfl⟩
theorem rnone_any (a : Nat) (w : World) (h : Hid (a < 4294967296)) : Calls Try.prog 48 #[.int .u32 (a : Int)] w fun e w' => e = .returned (.bool (nanP a)) ∧ w' = w := by
  have hn : decide (2139095040 < ((absP a : Nat) : Int)) = nanP a := by unfold nanP absP; congr 1; apply propext; omega
  go_enter Try.func48, Try.ntmps48
  go_wp2_with fail
  refine (rabs_any a _ h).mono ?_
  rintro e w' ⟨rfl, rfl⟩
  go_wp2
  go_ret
  exact ⟨by first | rfl | rw [← hn]; rfl, rfl⟩
theorem rnone_at {a : Nat} {b : Bool} {w : World} (h : Hid (a < 4294967296)) (hb : Hid (nanP a = b)) : Calls Try.prog 48 #[.int .u32 (a : Int)] w fun e w' => e = .returned (.bool b) ∧ w' = w := by
  have := rnone_any a w h
  rw [hb.out] at this
  exact this
theorem rbelow_any (a : Nat) (w : World) : Calls Try.prog 46 #[.int .u32 (a : Int)] w fun e w' => e = .returned (.bool (decide (2147483648 ≤ a))) ∧ w' = w := by
  have hn : decide (2147483648 ≤ (a : Int)) = decide (2147483648 ≤ a) := by congr 1; apply propext; omega
  go_enter Try.func46, Try.ntmps46
  go_wp2
  go_ret
  exact ⟨by first | rfl | rw [← hn]; rfl, rfl⟩
theorem rbelow_at {a : Nat} {b : Bool} {w : World} (hb : Hid (decide (2147483648 ≤ a) = b)) : Calls Try.prog 46 #[.int .u32 (a : Int)] w fun e w' => e = .returned (.bool b) ∧ w' = w := by
  have := rbelow_any a w
  rw [hb.out] at this
  exact this
/-- how two stand -/
def cmpP (a b : Nat) : Int := if placeP a < placeP b then -1 else if placeP b < placeP a then 1 else 0
theorem cmp_lt {a b : Nat} (h : placeP a < placeP b) : cmpP a b = -1 := by unfold cmpP; rw [if_pos h]
theorem cmp_gt {a b : Nat} (h : placeP b < placeP a) : cmpP a b = 1 := by unfold cmpP; rw [if_neg (by omega), if_pos h]
theorem cmp_eq {a b : Nat} (h : placeP a = placeP b) : cmpP a b = 0 := by unfold cmpP; rw [if_neg (by omega), if_neg (by omega)]
end Go.Proofs.Ytanccobllehnaaa
