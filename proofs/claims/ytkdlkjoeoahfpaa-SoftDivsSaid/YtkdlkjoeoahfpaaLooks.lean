/- Contracts of Min and Max, and of the document's looks. -/
import Derived.Test.YtkdlkjoeoahfpaaSwapP
import Derived.Test.YtkdlkjoeoahfpaaSoftL
namespace Go.Proofs.Ytkdlkjoeoahfpaa
open Go.RowKit

theorem rabs_any (a : Nat) (w : World) (h : Hid (a < 4294967296)) : Calls Try.prog 40 #[.int .u32 (a : Int)] w fun e w' => e = .returned (.int .u32 (absP a : Int)) ∧ w' = w := by
  have hh := h.out
  have he : (a : Int) % 2147483648 = ((absP a : Nat) : Int) := by unfold absP; omega
  go_enter Try.func40, Try.ntmps40
  go_wp2
  go_ret
  exact ⟨congrArg Ending.returned (congrArg (Value.int .u32) (by first | rfl | exact he)), rfl⟩
theorem rnone_any (a : Nat) (w : World) (h : Hid (a < 4294967296)) : Calls Try.prog 39 #[.int .u32 (a : Int)] w fun e w' => e = .returned (.bool (nanP a)) ∧ w' = w := by
  have hn : decide (2139095040 < ((absP a : Nat) : Int)) = nanP a := by unfold nanP absP; congr 1; apply propext; omega
  go_enter Try.func39, Try.ntmps39
  go_wp2_with fail
  refine (rabs_any a _ h).mono ?_
  rintro e w' ⟨rfl, rfl⟩
  go_wp2
  go_ret
  exact ⟨by first | rfl | rw [← hn]; rfl, rfl⟩
theorem rnone_at {a : Nat} {b : Bool} {w : World} (h : Hid (a < 4294967296)) (hb : Hid (nanP a = b)) : Calls Try.prog 39 #[.int .u32 (a : Int)] w fun e w' => e = .returned (.bool b) ∧ w' = w := by
  have := rnone_any a w h
  rw [hb.out] at this
  exact this
theorem rbelow_any (a : Nat) (w : World) : Calls Try.prog 58 #[.int .u32 (a : Int)] w fun e w' => e = .returned (.bool (decide (2147483648 ≤ a))) ∧ w' = w := by
  have hn : decide (2147483648 ≤ (a : Int)) = decide (2147483648 ≤ a) := by congr 1; apply propext; omega
  go_enter Try.func58, Try.ntmps58
  go_wp2
  go_ret
  exact ⟨by first | rfl | rw [← hn]; rfl, rfl⟩
theorem rbelow_at {a : Nat} {b : Bool} {w : World} (hb : Hid (decide (2147483648 ≤ a) = b)) : Calls Try.prog 58 #[.int .u32 (a : Int)] w fun e w' => e = .returned (.bool b) ∧ w' = w := by
  have := rbelow_any a w
  rw [hb.out] at this
  exact this
theorem rneg_any (a : Nat) (w : World) (h : Hid (a < 4294967296)) : Calls Try.prog 41 #[.int .u32 (a : Int)] w fun e w' => e = .returned (.int .u32 (negP a : Int)) ∧ w' = w := by
  have hh := h.out
  by_cases hl : 2147483648 ≤ a
  · have e1 : ((negP a : Nat) : Int) = (a : Int) - 2147483648 := by unfold negP; rw [if_neg (by omega)]; omega
    have hl' : 2147483648 ≤ (a : Int) := by omega
    go_enter Try.func41, Try.ntmps41
    go_wp2
    go_ret
    exact ⟨by first | rfl | exact congrArg Ending.returned (congrArg (Value.int .u32) e1.symm) | (rw [e1]; rfl), rfl⟩
  · have e1 : ((negP a : Nat) : Int) = (a : Int) + 2147483648 := by unfold negP; rw [if_pos (by omega)]; omega
    have hl' : ¬ 2147483648 ≤ (a : Int) := by omega
    go_enter Try.func41, Try.ntmps41
    go_wp2
    go_ret
    exact ⟨by first | rfl | exact congrArg Ending.returned (congrArg (Value.int .u32) e1.symm) | (rw [e1]; rfl), rfl⟩
theorem rcanon_any (a : Nat) (w : World) (h : Hid (a < 4294967296)) : Calls Try.prog 38 #[.int .u32 (a : Int)] w fun e w' => e = .returned (.int .u32 (canonP a : Int)) ∧ w' = w := by
  cases ha : nanP a
  all_goals
    have HNA := Lib.hid ha
    clear ha
    go_enter Try.func38, Try.ntmps38
    go_wp2_with fail
    refine (rnone_at h HNA).mono ?_
    rintro e w' ⟨rfl, rfl⟩
    go_wp2
    go_ret
  · exact ⟨by rw [show canonP a = a from by unfold canonP; rw [HNA.out]; rfl]; rfl, rfl⟩
  · exact ⟨by rw [show canonP a = 2143289344 from by unfold canonP; rw [HNA.out]; rfl]; rfl, rfl⟩

/-- how two stand -/
def cmpP (a b : Nat) : Int := if placeP a < placeP b then -1 else if placeP b < placeP a then 1 else 0
theorem cmp_lt {a b : Nat} (h : placeP a < placeP b) : cmpP a b = -1 := by unfold cmpP; rw [if_pos h]
theorem cmp_gt {a b : Nat} (h : placeP b < placeP a) : cmpP a b = 1 := by unfold cmpP; rw [if_neg (by omega), if_pos h]
theorem cmp_eq {a b : Nat} (h : placeP a = placeP b) : cmpP a b = 0 := by unfold cmpP; rw [if_neg (by omega), if_neg (by omega)]
set_option maxRecDepth 100000 in
set_option maxHeartbeats 800000 in
theorem compared_no {a b : Nat} {w : World} (h : Hid (a < 4294967296)) (h' : Hid (b < 4294967296)) (hn : nanP a = true ∨ nanP b = true) :
    Calls Try.prog 42 #[.int .u32 (a : Int), .int .u32 (b : Int)] w fun e w' => e = .returned (.tuple #[.int .i64 0, .bool false]) ∧ w' = w := by
  cases ha : nanP a
  · have hb : nanP b = true := by rcases hn with e | e; · rw [ha] at e; cases e
                                  · exact e
    have HNA := Lib.hid ha
    have HNB := Lib.hid hb
    clear ha hb hn
    go_enter Try.func42, Try.ntmps42
    go_wp2_with fail
    refine (rnone_at h HNA).mono ?_
    rintro e w' ⟨rfl, rfl⟩
    go_wp2_with fail
    refine (rnone_at h' HNB).mono ?_
    rintro e w' ⟨rfl, rfl⟩
    go_wp2
    go_ret2
    exact ⟨rfl, rfl⟩
  · have HNA := Lib.hid ha
    clear ha hn
    go_enter Try.func42, Try.ntmps42
    go_wp2_with fail
    refine (rnone_at h HNA).mono ?_
    rintro e w' ⟨rfl, rfl⟩
    go_wp2
    go_ret2
    exact ⟨rfl, rfl⟩
set_option maxRecDepth 100000 in
set_option maxHeartbeats 1600000 in
theorem compared_yes {a b : Nat} {w : World} (h : Hid (a < 4294967296)) (h' : Hid (b < 4294967296)) (HNA : Hid (nanP a = false)) (HNB : Hid (nanP b = false)) :
    Calls Try.prog 42 #[.int .u32 (a : Int), .int .u32 (b : Int)] w fun e w' => e = .returned (.tuple #[.int .i64 (cmpP a b), .bool true]) ∧ w' = w := by
  have la : absP a < 2147483648 := by unfold absP; omega
  have lb : absP b < 2147483648 := by unfold absP; omega
  have HC : Hid (cmpP a b = cmpP a b) := Lib.hid rfl
  have hpa : placeP a = if 2147483648 ≤ a then -((absP a : Nat) : Int) else ((absP a : Nat) : Int) := rfl
  have hpb : placeP b = if 2147483648 ≤ b then -((absP b : Nat) : Int) else ((absP b : Nat) : Int) := rfl
  have HPA := Lib.hid hpa
  have HPB := Lib.hid hpb
  clear hpa hpb
  generalize hva : absP a = va at *
  generalize hvb : absP b = vb at *
  have HVA := Lib.hid hva
  have HVB := Lib.hid hvb
  clear hva hvb
  cases hna : decide (2147483648 ≤ a) <;> cases hnb : decide (2147483648 ≤ b)
  all_goals
    have HA := Lib.hid hna
    have HB := Lib.hid hnb
    clear hna hnb
    have ea : placeP a = (if decide (2147483648 ≤ a) = true then -(va : Int) else (va : Int)) := by rw [HPA.out]; simp
    have eb : placeP b = (if decide (2147483648 ≤ b) = true then -(vb : Int) else (vb : Int)) := by rw [HPB.out]; simp
    rw [HA.out] at ea
    rw [HB.out] at eb
    simp only [if_true, Bool.false_eq_true, if_false] at ea eb
    have EA := Lib.hid ea
    have EB := Lib.hid eb
    clear ea eb
    go_enter Try.func42, Try.ntmps42
    go_wp2_with fail
    refine (rnone_at h HNA).mono ?_
    rintro e w' ⟨rfl, rfl⟩
    go_wp2_with fail
    refine (rnone_at h' HNB).mono ?_
    rintro e w' ⟨rfl, rfl⟩
    go_wp2_with fail
    refine (rabs_any a _ h).mono ?_
    rintro e w' ⟨rfl, rfl⟩
    rw [HVA.out]
    go_wp2_with fail
    refine (rabs_any b _ h').mono ?_
    rintro e w' ⟨rfl, rfl⟩
    rw [HVB.out]
    go_wp2_with fail
    refine (rbelow_at HA).mono ?_
    rintro e w' ⟨rfl, rfl⟩
    go_wp2_with fail
    refine (rbelow_at HB).mono ?_
    rintro e w' ⟨rfl, rfl⟩
    go_wp2
    all_goals
      go_ret2
      refine ⟨?_, rfl⟩
      first
        | (rw [cmp_lt (by rw [EA.out, EB.out]; omega)]; rfl)
        | (rw [cmp_gt (by rw [EA.out, EB.out]; omega)]; rfl)
        | (rw [cmp_eq (by rw [EA.out, EB.out]; omega)]; rfl)
end Go.Proofs.Ytkdlkjoeoahfpaa
