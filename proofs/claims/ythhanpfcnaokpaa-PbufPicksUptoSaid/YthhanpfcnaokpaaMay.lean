/- Contracts of may, of the program and of the document's answer. -/
import Derived.Test.YthhanpfcnaokpaaFlds
namespace Go.Proofs.Ythhanpfcnaokpaa
open Go.RowKit
theorem dec_zero (n : Nat) : decide (n = 0) = ((n : Int) == 0) := by rw [Bool.eq_iff_iff]; simp

/-- what may answers -/
def MayRmay (w : World) (b : Bool) (e : Ending) (w' : World) : Prop := e = .returned (.bool b) ∧ Below w.heap.size w w'
section
variable (num wire : Int) (x n cap : Nat) (A : Option Addr) (w : World)
set_option maxHeartbeats 1600000 in
theorem may_any (hx : x < 18446744073709551616) : Calls Try.prog 39 #[.agg #[.int .i64 num, .int .i64 wire, .int .u64 x, .slice A n cap]] w (MayRmay w (mayN num wire x n)) := by
  have HX := Lib.hid hx
  clear hx
  by_cases h1 : num < 1
  · have HM := Lib.hid (show mayN num wire x n = false by simp [mayN]; intros; omega)
    go_enter Try.func39, Try.ntmps39
    go_wp2
    go_ret
    exact ⟨by rw [HM.out]; rfl, (Below.refl _ _).alloc (Nat.le_refl _) _⟩
  by_cases h2 : 536870911 < num
  · have HM := Lib.hid (show mayN num wire x n = false by simp [mayN]; intros; omega)
    go_enter Try.func39, Try.ntmps39
    go_wp2
    go_ret
    exact ⟨by rw [HM.out]; rfl, (Below.refl _ _).alloc (Nat.le_refl _) _⟩
  have hg : decide (1 ≤ num) = true := by simp; omega
  have hg' : decide (num ≤ 536870911) = true := by simp; omega
  by_cases w0 : wire = 0
  · subst w0
    have HM := Lib.hid (show mayN num 0 x n = ((n : Int) == 0) by simp [mayN, hg, hg', dec_zero])
    clear hg hg'
    go_enter Try.func39, Try.ntmps39
    go_wp2
    go_ret
    exact ⟨by rw [HM.out]; rfl, (Below.refl _ _).alloc (Nat.le_refl _) _⟩
  by_cases w1 : wire = 1
  · subst w1
    have HM := Lib.hid (show mayN num 1 x n = ((n : Int) == 0) by simp [mayN, hg, hg', dec_zero])
    clear hg hg' w0
    go_enter Try.func39, Try.ntmps39
    go_wp2
    go_ret
    exact ⟨by rw [HM.out]; rfl, (Below.refl _ _).alloc (Nat.le_refl _) _⟩
  have b0 : (wire == 0) = false := by simpa using w0
  have b1 : (wire == 1) = false := by simpa using w1
  by_cases w5 : wire = 5
  · subst w5
    by_cases hn : n = 0
    · subst hn
      by_cases hx : x < 4294967296
      · have HM := Lib.hid (show mayN num 5 x 0 = true by simp [mayN, hg, hg', hx])
        have hq : ((x : Int) / 4294967296 == 0) = true := by rw [beq_iff_eq]; omega
        have hq' : (x : Int) < 4294967296 := by omega
        clear hg hg' w0 w1 b0 b1
        go_enter Try.func39, Try.ntmps39
        go_wp2
        go_ret
        exact ⟨by rw [HM.out]; first | rfl | simp [hq], (Below.refl _ _).alloc (Nat.le_refl _) _⟩
      · have HM := Lib.hid (show mayN num 5 x 0 = false by simp [mayN, hg, hg', hx])
        have hq : ((x : Int) / 4294967296 == 0) = false := by rw [beq_eq_false_iff_ne]; omega
        have hq' : ¬ (x : Int) < 4294967296 := by omega
        clear hg hg' w0 w1 b0 b1
        go_enter Try.func39, Try.ntmps39
        go_wp2
        go_ret
        exact ⟨by rw [HM.out]; first | rfl | simp [hq], (Below.refl _ _).alloc (Nat.le_refl _) _⟩
    · have HM := Lib.hid (show mayN num 5 x n = false by simp [mayN, hg, hg', hn])
      have hq : ((n : Int) == 0) = false := by rw [beq_eq_false_iff_ne]; omega
      clear hg hg' w0 w1 b0 b1
      go_enter Try.func39, Try.ntmps39
      go_wp2
      go_ret
      exact ⟨by rw [HM.out]; rfl, (Below.refl _ _).alloc (Nat.le_refl _) _⟩
  have b5 : (wire == 5) = false := by simpa using w5
  by_cases w2 : wire = 2
  · subst w2
    have HM := Lib.hid (show mayN num 2 x n = ((x : Int) == 0) by simp [mayN, hg, hg', dec_zero])
    clear hg hg' w0 w1 b0 b1 b5 w5
    go_enter Try.func39, Try.ntmps39
    go_wp2
    go_ret
    exact ⟨by rw [HM.out]; rfl, (Below.refl _ _).alloc (Nat.le_refl _) _⟩
  have b2 : (wire == 2) = false := by simpa using w2
  have HM := Lib.hid (show mayN num wire x n = false by simp [mayN, w0, w1, w5, w2])
  clear hg hg' w0 w1 w2 w5
  go_enter Try.func39, Try.ntmps39
  go_wp2
  go_ret
  exact ⟨by rw [HM.out]; rfl, (Below.refl _ _).alloc (Nat.le_refl _) _⟩
end

/-- what may answers -/
def MayRrmay (w : World) (b : Bool) (e : Ending) (w' : World) : Prop := e = .returned (.bool b) ∧ Below w.heap.size w w'
section
variable (num wire : Int) (x n cap : Nat) (A : Option Addr) (w : World)
set_option maxHeartbeats 1600000 in
theorem rmay_any (hx : x < 18446744073709551616) : Calls Try.prog 41 #[.agg #[.int .i64 num, .int .i64 wire, .int .u64 x, .slice A n cap]] w (MayRrmay w (mayN num wire x n)) := by
  have HX := Lib.hid hx
  clear hx
  by_cases h1 : num < 1
  · have HM := Lib.hid (show mayN num wire x n = false by simp [mayN]; intros; omega)
    go_enter Try.func41, Try.ntmps41
    go_wp2
    go_ret
    exact ⟨by rw [HM.out]; rfl, (Below.refl _ _).alloc (Nat.le_refl _) _⟩
  by_cases h2 : 536870911 < num
  · have HM := Lib.hid (show mayN num wire x n = false by simp [mayN]; intros; omega)
    go_enter Try.func41, Try.ntmps41
    go_wp2
    go_ret
    exact ⟨by rw [HM.out]; rfl, (Below.refl _ _).alloc (Nat.le_refl _) _⟩
  have hg : decide (1 ≤ num) = true := by simp; omega
  have hg' : decide (num ≤ 536870911) = true := by simp; omega
  by_cases w0 : wire = 0
  · subst w0
    have HM := Lib.hid (show mayN num 0 x n = ((n : Int) == 0) by simp [mayN, hg, hg', dec_zero])
    clear hg hg'
    go_enter Try.func41, Try.ntmps41
    go_wp2
    go_ret
    exact ⟨by rw [HM.out]; rfl, (Below.refl _ _).alloc (Nat.le_refl _) _⟩
  by_cases w1 : wire = 1
  · subst w1
    have HM := Lib.hid (show mayN num 1 x n = ((n : Int) == 0) by simp [mayN, hg, hg', dec_zero])
    clear hg hg' w0
    go_enter Try.func41, Try.ntmps41
    go_wp2
    go_ret
    exact ⟨by rw [HM.out]; rfl, (Below.refl _ _).alloc (Nat.le_refl _) _⟩
  have b0 : (wire == 0) = false := by simpa using w0
  have b1 : (wire == 1) = false := by simpa using w1
  by_cases w5 : wire = 5
  · subst w5
    by_cases hn : n = 0
    · subst hn
      by_cases hx : x < 4294967296
      · have HM := Lib.hid (show mayN num 5 x 0 = true by simp [mayN, hg, hg', hx])
        have hq : ((x : Int) / 4294967296 == 0) = true := by rw [beq_iff_eq]; omega
        have hq' : (x : Int) < 4294967296 := by omega
        clear hg hg' w0 w1 b0 b1
        go_enter Try.func41, Try.ntmps41
        go_wp2
        go_ret
        exact ⟨by rw [HM.out]; first | rfl | simp [hq], (Below.refl _ _).alloc (Nat.le_refl _) _⟩
      · have HM := Lib.hid (show mayN num 5 x 0 = false by simp [mayN, hg, hg', hx])
        have hq : ((x : Int) / 4294967296 == 0) = false := by rw [beq_eq_false_iff_ne]; omega
        have hq' : ¬ (x : Int) < 4294967296 := by omega
        clear hg hg' w0 w1 b0 b1
        go_enter Try.func41, Try.ntmps41
        go_wp2
        go_ret
        exact ⟨by rw [HM.out]; first | rfl | simp [hq], (Below.refl _ _).alloc (Nat.le_refl _) _⟩
    · have HM := Lib.hid (show mayN num 5 x n = false by simp [mayN, hg, hg', hn])
      have hq : ((n : Int) == 0) = false := by rw [beq_eq_false_iff_ne]; omega
      clear hg hg' w0 w1 b0 b1
      go_enter Try.func41, Try.ntmps41
      go_wp2
      go_ret
      exact ⟨by rw [HM.out]; rfl, (Below.refl _ _).alloc (Nat.le_refl _) _⟩
  have b5 : (wire == 5) = false := by simpa using w5
  by_cases w2 : wire = 2
  · subst w2
    have HM := Lib.hid (show mayN num 2 x n = ((x : Int) == 0) by simp [mayN, hg, hg', dec_zero])
    clear hg hg' w0 w1 b0 b1 b5 w5
    go_enter Try.func41, Try.ntmps41
    go_wp2
    go_ret
    exact ⟨by rw [HM.out]; rfl, (Below.refl _ _).alloc (Nat.le_refl _) _⟩
  have b2 : (wire == 2) = false := by simpa using w2
  have HM := Lib.hid (show mayN num wire x n = false by simp [mayN, w0, w1, w5, w2])
  clear hg hg' w0 w1 w2 w5
  go_enter Try.func41, Try.ntmps41
  go_wp2
  go_ret
  exact ⟨by rw [HM.out]; rfl, (Below.refl _ _).alloc (Nat.le_refl _) _⟩
end
end Go.Proofs.Ythhanpfcnaokpaa
