/- Layer 3: the callees at given values; bounds of what they answer. -/
import Derived.Test.YtegeadkilolngaaElA
import Derived.Test.YtegeadkilolngaaMNat
import Derived.Test.YtegeadkilolngaaMRg
namespace Go.Proofs.Ytegeadkilolngaa
open Go.RowKit

theorem lt_whole (how : Nat) {a : Nat} (h : a < 4294967296) : wholeP how a < 4294967296 := by
  unfold wholeP
  split
  · decide
  · split
    · exact h
    · split
      · exact h
      · exact (okR.round _ _ _ _ _).1
theorem lt_scale (k : Int) {a : Nat} (h : a < 4294967296) : scaleP a k < 4294967296 := by
  unfold scaleP
  split
  · decide
  · split
    · exact h
    · exact (okR.round _ _ _ _ _).1
theorem lt_abs (a : Nat) : absP a < 4294967296 := by unfold absP; omega
theorem lt_row {z c : Nat} {l : List Nat} (h : ∀ d ∈ c :: l, d < 4294967296) : rowP z (c :: l) < 4294967296 := by
  rw [rowP_cons]
  induction l generalizing c with
  | nil => exact h c (by simp)
  | cons d t ih =>
    refine ih ?_
    intro e he
    rcases List.mem_cons.1 he with rfl | he
    · exact lt_fma (h d (by simp))
    · exact h e (by simp [he])
/-- the lesser one, as the code has it -/
def minF (a b : Nat) : Nat := if nanP a = true ∨ nanP b = true then 2143289344 else minP a b
def maxF (a b : Nat) : Nat := if nanP a = true ∨ nanP b = true then 2143289344 else maxP a b
theorem lt_min {a b : Nat} (ha : a < 4294967296) (hb : b < 4294967296) : minF a b < 4294967296 := by
  unfold minF minP
  repeat' split
  all_goals first | exact ha | exact hb | decide
theorem lt_max {a b : Nat} (ha : a < 4294967296) (hb : b < 4294967296) : maxF a b < 4294967296 := by
  unfold maxF maxP
  repeat' split
  all_goals first | exact ha | exact hb | decide
theorem min_at {a b : Nat} {r : Nat} {w : World} (Ha : Hid (a < 4294967296)) (Hb : Hid (b < 4294967296)) (hr : Hid (minF a b = r)) : Calls Try.prog 61 #[.int .u32 (a : Int), .int .u32 (b : Int)] w (fun e w' => e = .returned (.int .u32 (r : Int)) ∧ w' = w) := by
  by_cases hn : nanP a = true ∨ nanP b = true
  · have e : r = 2143289344 := by rw [← hr.out]; unfold minF; rw [if_pos hn]
    subst e
    exact min_no Ha Hb hn
  · have e : r = minP a b := by rw [← hr.out]; unfold minF; rw [if_neg hn]
    subst e
    exact min_yes Ha Hb (Lib.hid (by cases h : nanP a <;> simp [h] at hn ⊢)) (Lib.hid (by cases h : nanP b <;> simp [h] at hn ⊢))
theorem rmin_at {a b : Nat} {r : Nat} {w : World} (Ha : Hid (a < 4294967296)) (Hb : Hid (b < 4294967296)) (hr : Hid (minF a b = r)) : Calls Try.prog 56 #[.int .u32 (a : Int), .int .u32 (b : Int)] w (fun e w' => e = .returned (.int .u32 (r : Int)) ∧ w' = w) := by
  by_cases hn : nanP a = true ∨ nanP b = true
  · have e : r = 2143289344 := by rw [← hr.out]; unfold minF; rw [if_pos hn]
    subst e
    exact rmin_no Ha Hb hn
  · have e : r = minP a b := by rw [← hr.out]; unfold minF; rw [if_neg hn]
    subst e
    exact rmin_yes Ha Hb (Lib.hid (by cases h : nanP a <;> simp [h] at hn ⊢)) (Lib.hid (by cases h : nanP b <;> simp [h] at hn ⊢))
theorem max_at {a b : Nat} {r : Nat} {w : World} (Ha : Hid (a < 4294967296)) (Hb : Hid (b < 4294967296)) (hr : Hid (maxF a b = r)) : Calls Try.prog 48 #[.int .u32 (a : Int), .int .u32 (b : Int)] w (fun e w' => e = .returned (.int .u32 (r : Int)) ∧ w' = w) := by
  by_cases hn : nanP a = true ∨ nanP b = true
  · have e : r = 2143289344 := by rw [← hr.out]; unfold maxF; rw [if_pos hn]
    subst e
    exact max_no Ha Hb hn
  · have e : r = maxP a b := by rw [← hr.out]; unfold maxF; rw [if_neg hn]
    subst e
    exact max_yes Ha Hb (Lib.hid (by cases h : nanP a <;> simp [h] at hn ⊢)) (Lib.hid (by cases h : nanP b <;> simp [h] at hn ⊢))
theorem rmax_at {a b : Nat} {r : Nat} {w : World} (Ha : Hid (a < 4294967296)) (Hb : Hid (b < 4294967296)) (hr : Hid (maxF a b = r)) : Calls Try.prog 55 #[.int .u32 (a : Int), .int .u32 (b : Int)] w (fun e w' => e = .returned (.int .u32 (r : Int)) ∧ w' = w) := by
  by_cases hn : nanP a = true ∨ nanP b = true
  · have e : r = 2143289344 := by rw [← hr.out]; unfold maxF; rw [if_pos hn]
    subst e
    exact rmax_no Ha Hb hn
  · have e : r = maxP a b := by rw [← hr.out]; unfold maxF; rw [if_neg hn]
    subst e
    exact rmax_yes Ha Hb (Lib.hid (by cases h : nanP a <;> simp [h] at hn ⊢)) (Lib.hid (by cases h : nanP b <;> simp [h] at hn ⊢))
theorem add0_at {a b : Nat} {r : Nat} {w : World} (Ha : Hid (a < 4294967296)) (Hb : Hid (b < 4294967296)) (hr : Hid (addP 0 a b = r)) : Calls Try.prog 34 #[.int .u32 (a : Int), .int .u32 (b : Int)] w (BR w r) := by
  have := add0_any a b w Ha Hb
  rw [hr.out] at this
  exact this
theorem sub0_at {a b : Nat} {r : Nat} {w : World} (Ha : Hid (a < 4294967296)) (Hb : Hid (b < 4294967296)) (hr : Hid (addP 0 a (negP b) = r)) : Calls Try.prog 32 #[.int .u32 (a : Int), .int .u32 (b : Int)] w (BR w r) := by
  have := sub0_any a b w Ha Hb
  rw [hr.out] at this
  exact this
theorem div0_at {a b : Nat} {r : Nat} {w : World} (Ha : Hid (a < 4294967296)) (Hb : Hid (b < 4294967296)) (hr : Hid (divP 0 a b = r)) : Calls Try.prog 33 #[.int .u32 (a : Int), .int .u32 (b : Int)] w (BR w r) := by
  have := div0_any a b w Ha Hb
  rw [hr.out] at this
  exact this
theorem even_at {a : Nat} {r : Nat} {w : World} (Ha : Hid (a < 4294967296)) (hr : Hid (wholeP 2 a = r)) : Calls Try.prog 42 #[.int .u32 (a : Int)] w (BR w r) := by
  have := even_any a w Ha
  rw [hr.out] at this
  exact this
theorem abs_at {a : Nat} {r : Nat} {w : World} (Ha : Hid (a < 4294967296)) (hr : Hid (absP a = r)) : Calls Try.prog 29 #[.int .u32 (a : Int)] w (fun e w' => e = .returned (.int .u32 (r : Int)) ∧ w' = w) := by
  have := abs_any a w Ha.out
  rw [hr.out] at this
  exact this
theorem neg_at {a : Nat} {r : Nat} {w : World} (Ha : Hid (a < 4294967296)) (hr : Hid (negP a = r)) : Calls Try.prog 40 #[.int .u32 (a : Int)] w (fun e w' => e = .returned (.int .u32 (r : Int)) ∧ w' = w) := by
  have := neg_any a w Ha.out
  rw [hr.out] at this
  exact this
theorem toint_at {a : Nat} {r : Int} {w : World} (Ha : Hid (a < 4294967296)) (hr : Hid (toIntP a = r)) : Calls Try.prog 44 #[.int .u32 (a : Int)] w fun e w' => e = .returned (.int .i64 r) ∧ Below w.heap.size w w' := by
  have := toint_any a w Ha
  rw [hr.out] at this
  exact this
theorem rtoint_at {a : Nat} {r : Int} {w : World} (Ha : Hid (a < 4294967296)) (hr : Hid (toIntP a = r)) : Calls Try.prog 54 #[.int .u32 (a : Int)] w fun e w' => e = .returned (.int .i64 r) ∧ w' = w := by
  have := rtoint_any a w Ha
  rw [hr.out] at this
  exact this
theorem scale_at {a r : Nat} {k : Int} {w : World} (Ha : Hid (a < 4294967296)) (hr : Hid (scaleP a k = r)) : Calls Try.prog 43 #[.int .u32 (a : Int), .int .i64 k] w (BR w r) := by
  have := scale_any a k w Ha
  rw [hr.out] at this
  exact this
theorem mul3_at {a b : Nat} {r : Nat} {w : World} (Ha : Hid (a < 4294967296)) (Hb : Hid (b < 4294967296)) (hr : Hid (mulP 0 a b = r)) : Calls Try.prog 51 #[.int .u32 (a : Int), .int .u32 (b : Int)] w (BR w r) := by
  have HR := hr
  go_enter Try.func51, Try.ntmps51
  go_wp2_with fail
  refine (rmul0_any a b _ Ha Hb).mono ?_
  rintro e w' ⟨rfl, hb⟩
  rw [HR.out]
  go_wp2
  go_ret
  exact ⟨rfl, hb⟩
theorem neg3_at {a : Nat} {r : Nat} {w : World} (Ha : Hid (a < 4294967296)) (hr : Hid (negP a = r)) : Calls Try.prog 27 #[.int .u32 (a : Int)] w (fun e w' => e = .returned (.int .u32 (r : Int)) ∧ w' = w) := by
  have HR := hr
  go_enter Try.func27, Try.ntmps27
  go_wp2_with fail
  refine (rneg_any a _ Ha).mono ?_
  rintro e w' ⟨rfl, rfl⟩
  rw [HR.out]
  go_wp2
  go_ret
  exact ⟨rfl, rfl⟩
theorem abs3_at {a : Nat} {r : Nat} {w : World} (Ha : Hid (a < 4294967296)) (hr : Hid (absP a = r)) : Calls Try.prog 25 #[.int .u32 (a : Int)] w (fun e w' => e = .returned (.int .u32 (r : Int)) ∧ w' = w) := by
  have HR := hr
  go_enter Try.func25, Try.ntmps25
  go_wp2_with fail
  refine (rabs_any a _ Ha).mono ?_
  rintro e w' ⟨rfl, rfl⟩
  rw [HR.out]
  go_wp2
  go_ret
  exact ⟨rfl, rfl⟩
theorem even3_at {a : Nat} {r : Nat} {w : World} (Ha : Hid (a < 4294967296)) (hr : Hid (wholeP 2 a = r)) : Calls Try.prog 50 #[.int .u32 (a : Int)] w (BR w r) := by
  have HR := hr
  go_enter Try.func50, Try.ntmps50
  go_wp2_with fail
  refine (rwhole2_any a _ Ha).mono ?_
  rintro e w' ⟨rfl, hb⟩
  rw [HR.out]
  go_wp2
  go_ret
  exact ⟨rfl, hb⟩
theorem less3_at {a b : Nat} {r : Bool} {w : World} (Ha : Hid (a < 4294967296)) (Hb : Hid (b < 4294967296)) (hr : Hid (lessP a b = r)) : Calls Try.prog 15 #[.int .u32 (a : Int), .int .u32 (b : Int)] w (fun e w' => e = .returned (.bool r) ∧ w' = w) := by
  by_cases hn : nanP a = true ∨ nanP b = true
  · have HNO := Lib.hid hn
    have HR : Hid (r = false) := Lib.hid (by rw [← hr.out]; unfold lessP; rcases hn with e | e <;> rw [e] <;> simp)
    clear hn
    go_enter Try.func15, Try.ntmps15
    go_wp2_with fail
    refine (compared_no Ha Hb HNO.out).mono ?_
    rintro e w' ⟨rfl, rfl⟩
    go_wp2
    go_ret
    exact ⟨by rw [HR.out]; try rfl, rfl⟩
  · have HNA : Hid (nanP a = false) := Lib.hid (by cases h : nanP a <;> simp [h] at hn ⊢)
    have HNB : Hid (nanP b = false) := Lib.hid (by cases h : nanP b <;> simp [h] at hn ⊢)
    have HR : Hid (r = decide (placeP a < placeP b)) := Lib.hid (by rw [← hr.out]; unfold lessP; rw [HNA.out, HNB.out]; rfl)
    clear hn
    by_cases h1 : placeP a < placeP b
    · have HC := Lib.hid (cmp_lt h1)
      have HR2 : Hid (r = true) := Lib.hid (by rw [HR.out]; exact decide_eq_true h1)
      clear h1
      go_enter Try.func15, Try.ntmps15
      go_wp2_with fail
      refine (compared_yes Ha Hb HNA HNB).mono ?_
      rintro e w' ⟨rfl, rfl⟩
      rw [HC.out]
      go_wp2
      go_ret
      exact ⟨by rw [HR2.out]; try rfl, rfl⟩
    · by_cases h2 : placeP b < placeP a
      · have HC := Lib.hid (cmp_gt h2)
        have HR2 : Hid (r = false) := Lib.hid (by rw [HR.out]; exact decide_eq_false (by omega))
        clear h1 h2
        go_enter Try.func15, Try.ntmps15
        go_wp2_with fail
        refine (compared_yes Ha Hb HNA HNB).mono ?_
        rintro e w' ⟨rfl, rfl⟩
        rw [HC.out]
        go_wp2
        go_ret
        exact ⟨by rw [HR2.out]; try rfl, rfl⟩
      · have he : placeP a = placeP b := by omega
        have HC := Lib.hid (cmp_eq he)
        have HR2 : Hid (r = false) := Lib.hid (by rw [HR.out]; exact decide_eq_false h1)
        clear h1 h2 he
        go_enter Try.func15, Try.ntmps15
        go_wp2_with fail
        refine (compared_yes Ha Hb HNA HNB).mono ?_
        rintro e w' ⟨rfl, rfl⟩
        rw [HC.out]
        go_wp2
        go_ret
        exact ⟨by rw [HR2.out]; try rfl, rfl⟩
/-- held between two others -/
def heldF (y lo hi : Nat) : Nat := maxF lo (minF hi y)
theorem lt_held {y lo hi : Nat} (h1 : y < 4294967296) (h2 : lo < 4294967296) (h3 : hi < 4294967296) : heldF y lo hi < 4294967296 := lt_max h2 (lt_min h3 h1)
/-- y with x's sign -/
def signedF (y x : Nat) : Nat := if 2147483648 ≤ x then negP y else y
theorem lt_signed {y x : Nat} (h1 : y < 4294967296) : signedF y x < 4294967296 := by
  unfold signedF
  split
  · exact neg_lt h1
  · exact h1
theorem held_at {y lo hi r : Nat} {w : World} (Hy : Hid (y < 4294967296)) (Hlo : Hid (lo < 4294967296)) (Hhi : Hid (hi < 4294967296)) (hr : Hid (heldF y lo hi = r)) : Calls Try.prog 37 #[.int .u32 (y : Int), .int .u32 (lo : Int), .int .u32 (hi : Int)] w (fun e w' => e = .returned (.int .u32 (r : Int)) ∧ w' = w) := by
  have HR := hr
  obtain ⟨m, hm⟩ : ∃ m, minF hi y = m := ⟨_, rfl⟩
  have HM := Lib.hid hm
  have HML : Hid (m < 4294967296) := Lib.hid (by rw [← hm]; exact lt_min Hhi.out Hy.out)
  have HR2 : Hid (maxF lo m = r) := Lib.hid (by rw [← HR.out, ← hm]; rfl)
  clear hm
  go_enter Try.func37, Try.ntmps37
  go_wp2_with fail
  refine (min_at Hhi Hy HM).mono ?_
  rintro e w' ⟨rfl, rfl⟩
  go_wp2_with fail
  refine (max_at Hlo HML HR2).mono ?_
  rintro e w' ⟨rfl, rfl⟩
  go_wp2
  go_ret
  exact ⟨rfl, rfl⟩
theorem held3_at {y lo hi r : Nat} {w : World} (Hy : Hid (y < 4294967296)) (Hlo : Hid (lo < 4294967296)) (Hhi : Hid (hi < 4294967296)) (hr : Hid (heldF y lo hi = r)) : Calls Try.prog 28 #[.int .u32 (y : Int), .int .u32 (lo : Int), .int .u32 (hi : Int)] w (fun e w' => e = .returned (.int .u32 (r : Int)) ∧ w' = w) := by
  have HR := hr
  obtain ⟨m, hm⟩ : ∃ m, minF hi y = m := ⟨_, rfl⟩
  have HM := Lib.hid hm
  have HML : Hid (m < 4294967296) := Lib.hid (by rw [← hm]; exact lt_min Hhi.out Hy.out)
  have HR2 : Hid (maxF lo m = r) := Lib.hid (by rw [← HR.out, ← hm]; rfl)
  clear hm
  go_enter Try.func28, Try.ntmps28
  go_wp2_with fail
  refine (rmin_at Hhi Hy HM).mono ?_
  rintro e w' ⟨rfl, rfl⟩
  go_wp2_with fail
  refine (rmax_at Hlo HML HR2).mono ?_
  rintro e w' ⟨rfl, rfl⟩
  go_wp2
  go_ret
  exact ⟨rfl, rfl⟩
theorem sign_and {x : Nat} (h : x < 4294967296) : (bits .and .u32 (x : Int) 2147483648 != 0) = decide (2147483648 ≤ x) := by
  have e : bits .and .u32 (x : Int) 2147483648 = ((x &&& 2147483648 : Nat) : Int) := u32_and_nat x 2147483648 h (by decide)
  have hx : x &&& 2147483648 = if 2147483648 ≤ x then 2147483648 else 0 := by
    apply Nat.eq_of_testBit_eq
    intro i
    rw [Nat.testBit_and, show (2147483648 : Nat) = 2 ^ 31 from rfl, Nat.testBit_two_pow]
    by_cases h1 : 31 = i
    · subst h1
      rw [decide_eq_true rfl, Bool.and_true, Nat.testBit_eq_decide_div_mod_eq]
      split
      · rw [Nat.testBit_two_pow, decide_eq_true rfl, decide_eq_true]; omega
      · rw [Nat.zero_testBit, decide_eq_false]; omega
    · rw [decide_eq_false h1, Bool.and_false]
      split
      · rw [Nat.testBit_two_pow, decide_eq_false h1]
      · rw [Nat.zero_testBit]
  rw [e, hx]
  split
  · rename_i h; rw [decide_eq_true h]; rfl
  · rename_i h; rw [decide_eq_false h]; rfl
theorem signed_at {y x r : Nat} {w : World} (Hy : Hid (y < 4294967296)) (Hx : Hid (x < 4294967296)) (hr : Hid (signedF y x = r)) : Calls Try.prog 36 #[.int .u32 (y : Int), .int .u32 (x : Int)] w (fun e w' => e = .returned (.int .u32 (r : Int)) ∧ w' = w) := by
  have hc := sign_and Hx.out
  by_cases hs : 2147483648 ≤ x
  · have HR : Hid (negP y = r) := Lib.hid (by rw [← hr.out]; unfold signedF; rw [if_pos hs])
    rw [decide_eq_true hs] at hc
    clear hs
    go_enter Try.func36, Try.ntmps36
    go_wp2_with fail
    refine (neg_at Hy HR).mono ?_
    rintro e w' ⟨rfl, rfl⟩
    go_wp2
    go_ret
    exact ⟨rfl, rfl⟩
  · have HR : Hid (y = r) := Lib.hid (by rw [← hr.out]; unfold signedF; rw [if_neg hs])
    rw [decide_eq_false hs] at hc
    clear hs
    go_enter Try.func36, Try.ntmps36
    go_wp2
    go_ret
    exact ⟨by rw [← HR.out]; try rfl, rfl⟩
end Go.Proofs.Ytegeadkilolngaa
