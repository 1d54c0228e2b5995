/- Plain: the circle's steps of x and of the turned x. -/
import Derived.Test.YtegeadkilolngaaElL
import Derived.Test.YtegeadkilolngaaElF
namespace Go.Proofs.Ytegeadkilolngaa

theorem amt_next (m : Nat) : amt (m + 1) = amt m + two (m / 8388608 - 1) := by
  by_cases h : m % 8388608 + 1 < 8388608
  · have h1 : (m + 1) / 8388608 = m / 8388608 := by omega
    have h2 : (m + 1) % 8388608 = m % 8388608 + 1 := by omega
    unfold amt
    rw [h1, h2]
    split
    · rename_i h0
      rw [h0]
      rfl
    · rw [show 8388608 + (m % 8388608 + 1) = (8388608 + m % 8388608) + 1 from by omega, Nat.add_mul (8388608 + m % 8388608), Nat.one_mul]
  · have h1 : (m + 1) / 8388608 = m / 8388608 + 1 := by omega
    have h2 : (m + 1) % 8388608 = 0 := by omega
    unfold amt
    rw [h1, h2, if_neg (by omega : ¬ (m / 8388608 + 1 = 0))]
    split
    · rename_i h0
      rw [h0]
      show 8388608 * 1 = m + 1
      omega
    · rename_i h0
      have e : m / 8388608 + 1 - 1 = (m / 8388608 - 1) + 1 := by omega
      rw [e, two_succ, show m % 8388608 = 8388607 from by omega]
      generalize two (m / 8388608 - 1) = t
      omega
theorem amt_gap {m U : Nat} (h : amt m < 16777216 * two U) : amt (m + 1) ≤ amt m + two U := by
  rw [amt_next]
  refine Nat.add_le_add_left (two_le ?_) _
  rcases Nat.lt_or_ge U (m / 8388608 - 1) with h' | h'
  · exfalso
    have e : amt m = (8388608 + m % 8388608) * two (m / 8388608 - 1) := by unfold amt; rw [if_neg (by omega)]
    have h1 := two_le (show U + 1 ≤ m / 8388608 - 1 from h')
    rw [two_succ] at h1
    have h2 : 8388608 * two (m / 8388608 - 1) ≤ (8388608 + m % 8388608) * two (m / 8388608 - 1) := Nat.mul_le_mul_right _ (by omega)
    rw [← e] at h2
    omega
  · exact h'
/-- rounded: not farther than half the last place -/
theorem rm_half {p q U : Nat} (hU : U ≤ 253) (h : p < 16777216 * two U * q) :
    2 * (amt (rm p q) * q) ≤ 2 * p + two U * q ∧ 2 * p ≤ 2 * (amt (rm p q) * q) + two U * q := by
  obtain ⟨c1, c2, c3⟩ := cut_is p q
  unfold rm rnd
  generalize cut p q = m at *
  have hm : m < 2139095040 := by
    rcases Nat.lt_or_ge m 2139095040 with h' | h'
    · exact h'
    · have h1 := Nat.mul_le_mul_right q (amt_mono h')
      rw [amt_inf] at h1
      have h2 : 16777216 * two U ≤ 8388608 * two 254 := by
        have := two_le (show U + 1 ≤ 254 by omega)
        rw [two_succ] at this
        omega
      have h3 := Nat.mul_le_mul_right q h2
      omega
  have h3 := c3 hm
  have hlt : amt m < 16777216 * two U := by
    rcases Nat.lt_or_ge (amt m) (16777216 * two U) with h' | h'
    · exact h'
    · have := Nat.mul_le_mul_right q h'
      omega
  have g := Nat.mul_le_mul_right q (amt_gap hlt)
  rw [Nat.add_mul] at g
  have z : ∀ k, sgn false + k = k := fun k => Nat.zero_add k
  unfold rndM
  rw [if_neg (by omega), show inw 0 false = false from rfl, show outw 0 false = false from rfl]
  by_cases h4 : amt m * q = p ∨ false = true
  · rw [if_pos h4, z]
    have h5 : amt m * q = p := by simpa using h4
    omega
  · rw [if_neg h4, if_neg (by decide), Nat.add_mul]
    split
    · rw [z]
      omega
    · rw [z]
      omega
theorem rv_half {N : Int} {q U : Nat} (hU : U ≤ 253) (h : N.natAbs < 16777216 * two U * q) :
    2 * (rv N q * q) ≤ 2 * N + ((two U * q : Nat) : Int) ∧ 2 * N ≤ 2 * (rv N q * q) + ((two U * q : Nat) : Int) := by
  obtain ⟨h1, h2⟩ := rm_half hU h
  have e : ((amt (rm N.natAbs q) : Nat) : Int) * (q : Int) = ((amt (rm N.natAbs q) * q : Nat) : Int) := by rw [Int.natCast_mul]
  unfold rv
  by_cases hn : N < 0
  · rw [if_pos hn, Int.neg_mul, e]
    generalize amt (rm N.natAbs q) * q = y at *
    generalize two U * q = t at *
    omega
  · rw [if_neg hn, e]
    generalize amt (rm N.natAbs q) * q = y at *
    generalize two U * q = t at *
    omega
/-- a whole number of the least amounts, rounded -/
def rH (M : Int) : Int := rv (((two 149 : Nat) : Int) * M) (two 149)
theorem rH_neg (M : Int) : rH (-M) = -rH M := by unfold rH; rw [Int.mul_neg, rv_neg (two_pos _)]
theorem rH_near {M : Int} {U : Nat} (hU : U ≤ 253) (h : M.natAbs < 16777216 * two U) : 2 * rH M ≤ 2 * M + ((two U : Nat) : Int) ∧ 2 * M ≤ 2 * rH M + ((two U : Nat) : Int) := by
  have hq := two_pos 149
  obtain ⟨h1, h2⟩ := rv_half (N := ((two 149 : Nat) : Int) * M) (q := two 149) hU (by
    rw [Int.natAbs_mul, show (((two 149 : Nat) : Int)).natAbs = two 149 from rfl, Nat.mul_comm (two 149)]
    exact Nat.mul_lt_mul_of_pos_right h hq)
  unfold rH
  rw [Int.natCast_mul] at h1 h2
  generalize rv (((two 149 : Nat) : Int) * M) (two 149) = r at *
  have hq' : (0 : Int) < ((two 149 : Nat) : Int) := by omega
  generalize ((two 149 : Nat) : Int) = Q at *
  generalize ((two U : Nat) : Int) = t at *
  have e1 : Q * (2 * r) = 2 * (r * Q) := by rw [Int.mul_left_comm, Int.mul_comm Q r]
  have e2 : Q * (2 * M + t) = 2 * (Q * M) + t * Q := by rw [Int.mul_add, Int.mul_left_comm, Int.mul_comm Q t]
  have e3 : Q * (2 * M) = 2 * (Q * M) := Int.mul_left_comm _ _ _
  have e4 : Q * (2 * r + t) = 2 * (r * Q) + t * Q := by rw [Int.mul_add, e1, Int.mul_comm Q t]
  constructor
  · refine Int.le_of_mul_le_mul_left ?_ hq'
    rw [e1, e2]; exact h1
  · refine Int.le_of_mul_le_mul_left ?_ hq'
    rw [e3, e4]; exact h2
theorem amt_form' (m : Nat) : ∃ U k, amt m = k * two U ∧ k < 16777216 := by
  unfold amt
  split
  · exact ⟨0, m, by show m = m * 1; omega, by omega⟩
  · exact ⟨m / 8388608 - 1, 8388608 + m % 8388608, rfl, by omega⟩
theorem repr_of' : ∀ (U k : Nat), k < 16777216 → ∃ m, amt m = k * two U
  | 0, k, h => ⟨k, by
      have := amt_at (U := 0) (m := k) (.inl rfl) (by omega)
      rw [Nat.zero_mul, Nat.zero_add] at this
      exact this⟩
  | U + 1, k, h => by
      by_cases hk : 8388608 ≤ k
      · exact ⟨_, amt_at (.inr hk) (by omega)⟩
      · obtain ⟨m, hm⟩ := repr_of' U (2 * k) (by omega)
        exact ⟨m, by rw [hm, two_succ, ← Nat.mul_assoc, Nat.mul_comm k 2]⟩
/-- what is a float stays -/
theorem rH_exact {M : Int} {k U : Nat} (hk : k < 16777216) (hU : U ≤ 253) (h : M.natAbs = k * two U) : rH M = M := by
  obtain ⟨m, hm⟩ := repr_of' U k hk
  have hlt : m < 2139095040 := by
    refine amt_lt_iff.1 ?_
    rw [hm, amt_inf]
    have h2 := two_le (show U + 1 ≤ 254 by omega)
    rw [two_succ] at h2
    have h3 : k * two U < 16777216 * two U := Nat.mul_lt_mul_of_pos_right hk (two_pos _)
    omega
  unfold rH
  rw [Int.mul_comm]
  exact rv_exact hlt (two_pos _) (by rw [h, hm])
theorem rH_nonzero {M : Int} (h : M ≠ 0) : rH M ≠ 0 := by
  have key : ∀ N : Int, 1 ≤ N → 1 ≤ rH N := fun N hN => by
    unfold rH
    refine rv_low (m := 1) (M := 1) (by decide) (two_pos _) rfl ?_
    have := two_pos 149
    have h2 := Int.mul_le_mul_of_nonneg_left hN (show (0 : Int) ≤ ((two 149 : Nat) : Int) by omega)
    rw [Int.mul_one] at h2
    rw [Int.one_mul]
    exact h2
  rcases Int.lt_or_le 0 M with h1 | h1
  · have := key M (by omega); omega
  · have := key (-M) (by omega)
    rw [rH_neg] at this
    omega
theorem fma_step {a b c : Nat} {K : Int} (ha : Fn a) (hb : Fn b) (hc : Fn c) (hk : val a = ((two 149 : Nat) : Int) * K) :
    Ok (fmaP 0 a b c) ∧ val (fmaP 0 a b c) = rH (K * val b + val c) := by
  have h := fma_val ha hb hc
  rw [hk, Int.mul_assoc, ← Int.mul_add] at h
  exact h
theorem e149 : two 149 = 713623846352979940529142984724747568191373312 := by kernel_rfl
/-! the even whole one -/
theorem oES (neg : Bool) {m : Nat} (h : m < 2147483648) : oE (sgn neg + m) = oE m ∧ oS (sgn neg + m) = oS m := by
  have h1 : (sgn neg + m) / 8388608 % 256 = m / 8388608 % 256 := by
    cases neg
    · show (0 + m) / 8388608 % 256 = _; omega
    · show (2147483648 + m) / 8388608 % 256 = _; omega
  have h2 : (sgn neg + m) % 8388608 = m % 8388608 := by
    cases neg
    · show (0 + m) % 8388608 = _; omega
    · show (2147483648 + m) % 8388608 = _; omega
  unfold oE oS
  rw [h1, h2]
  exact ⟨rfl, rfl⟩
theorem evk_sum (neg : Bool) {m : Nat} (h : m < 2147483648) : evk (sgn neg + m) = evk m := by
  obtain ⟨h1, h2⟩ := oES neg h
  have h3 : absP m = m := by unfold absP; omega
  unfold evk
  rw [h1, h2, abs_sum neg h, h3]
theorem evk_abs {b : Nat} (h : Fn b) : evk b = evk (absP b) := by
  have := evk_sum (oN b) (m := absP b) (by unfold absP; omega)
  rw [sum_self h.1] at this
  exact this
theorem val_inj {a b : Nat} (ha : Fn a) (hb : Fn b) (h : val b = -val a) : absP b = absP a ∧ (absP a ≠ 0 → oN b = !oN a) := by
  have h1 : absP b = absP a := by
    refine amt_inj ?_
    rw [← val_abs, ← val_abs, h, Int.natAbs_neg]
  refine ⟨h1, fun h0 => ?_⟩
  rw [val_on, val_on a, h1] at h
  have h2 := amt_smono (show 0 < absP a by omega)
  rw [amt_zero] at h2
  cases e1 : oN a <;> cases e2 : oN b <;> rw [e1, e2] at h
  · simp only [Bool.false_eq_true, if_false] at h; omega
  · rfl
  · rfl
  · simp only [if_true] at h; omega
theorem bits_of {a b : Nat} (ha : Fn a) (hb : Fn b) (h : val b = -val a) : b = negP a ∨ (absP a = 0 ∧ absP b = 0) := by
  obtain ⟨h1, h2⟩ := val_inj ha hb h
  by_cases h0 : absP a = 0
  · exact .inr ⟨h0, by rw [h1]; exact h0⟩
  · left
    have e1 := sum_self hb.1
    have e2 := sum_self (neg_lt' ha.1)
    rw [abs_neg' ha.1, oN_neg' ha.1] at e2
    rw [h2 h0, h1] at e1
    rw [← e1, e2]
theorem even_neg {b b' : Nat} (h : Fn b) (h' : Fn b') (hv : val b' = -val b) : val (wholeP 2 b') = -val (wholeP 2 b) := by
  obtain ⟨e1, e2, e3, e4⟩ := even_is h
  obtain ⟨f1, f2, f3, f4⟩ := even_is h'
  obtain ⟨h1, h2⟩ := val_inj h h' hv
  have ek : evk b' = evk b := by rw [evk_abs h', evk_abs h, h1]
  rw [e1, f1, ek, val_sum _ (by omega), val_sum _ (by omega)]
  by_cases h0 : absP b = 0
  · have hz : evk b = 0 := by
      rw [evk_abs h, h0]
      decide
    rw [hz, amt_zero]
    cases oN b <;> cases oN b' <;> rfl
  · rw [h2 h0]
    cases oN b
    · simp only [Bool.not_false, Bool.false_eq_true, if_false, if_true]
    · simp only [Bool.not_true, Bool.false_eq_true, if_false, if_true]; omega
theorem evk_int {b : Nat} (h : Fn b) : ∃ n, amt (evk b) = two 149 * n ∧ 2 * amt (evk b) ≤ 2 * amt (absP b) + two 149 ∧ 2 * amt (absP b) ≤ 2 * amt (evk b) + two 149 ∧ (8388608 * two 149 ≤ amt (absP b) → evk b = absP b) := by
  have h149 := two_pos 149
  obtain ⟨ob1, ob2, ob3⟩ := o_bounds b
  have e := ofin_amt (a := b)
  unfold evk
  by_cases h1 : 0 ≤ oE b ∨ oS b = 0
  · rw [if_pos h1]
    refine ⟨oS b * two (oE b).toNat, ?_, by omega, by omega, fun _ => rfl⟩
    rw [← e]
    rcases h1 with h1 | h1
    · rw [show (oE b + 149).toNat = 149 + (oE b).toNat from by omega, two_add, Nat.mul_left_comm]
    · rw [h1]; simp
  · rw [if_neg h1]
    obtain ⟨d, hd⟩ : ∃ d : Nat, oE b = -(d : Int) := ⟨(-oE b).toNat, by omega⟩
    have hd1 : (-oE b).toNat = d := by omega
    have hd0 : 1 ≤ d := by omega
    rw [hd1]
    rw [hd, show (-(d : Int) + 149).toNat = 149 - d from by omega] at e
    have hdd : two 149 = two d * two (149 - d) := by rw [← two_add]; congr 1; omega
    have hdiv := Nat.div_add_mod (oS b) (two d)
    have hmod := Nat.mod_lt (oS b) (two_pos d)
    have hsmall : ¬ 8388608 * two 149 ≤ amt (absP b) := by
      rw [← e]
      have h2 : oS b * two (149 - d) < 16777216 * two (149 - d) := Nat.mul_lt_mul_of_pos_right ob1 (two_pos _)
      have h3 := two_le (show 149 - d + 1 ≤ 149 by omega)
      rw [two_succ] at h3
      omega
    by_cases h2 : oS b % two d = 0
    · rw [if_pos h2]
      refine ⟨oS b / two d, ?_, by omega, by omega, fun _ => rfl⟩
      rw [← e, hdd, Nat.mul_right_comm]
      rw [h2, Nat.add_zero] at hdiv
      rw [hdiv]
    · rw [if_neg h2]
      have hle := Nat.div_le_self (oS b) (two d)
      have h2d : two d = 2 * two (d - 1) := by rw [← two_succ]; congr 1; omega
      obtain ⟨n, hn, hn2⟩ : ∃ n, (if upP 2 false (halfP (oS b % two d) d) (decide (oS b / two d % 2 = 1)) = true then oS b / two d + 1 else oS b / two d) = n ∧ ((n = oS b / two d ∧ oS b % two d ≤ two (d - 1)) ∨ (n = oS b / two d + 1 ∧ two (d - 1) ≤ oS b % two d)) := by
        refine ⟨_, rfl, ?_⟩
        rw [show ∀ h o, upP 2 false h o = (decide (0 < h) || (decide (h = 0) && o)) from fun _ _ => rfl]
        unfold halfP
        by_cases c1 : two (d - 1) < oS b % two d
        · rw [if_pos c1, if_pos (by simp)]
          exact .inr ⟨rfl, by omega⟩
        · rw [if_neg c1]
          by_cases c2 : oS b % two d = two (d - 1)
          · rw [if_pos c2]
            by_cases c3 : (decide ((0 : Int) < 0) || decide ((0 : Int) = 0) && decide (oS b / two d % 2 = 1)) = true
            · rw [if_pos c3]
              exact .inr ⟨rfl, by omega⟩
            · rw [if_neg c3]
              exact .inl ⟨rfl, by omega⟩
          · rw [if_neg c2, if_neg (by simp)]
            exact .inl ⟨rfl, by omega⟩
      rw [hn]
      obtain ⟨b1, b2⟩ := bitsI_is (n := n) (by omega)
      refine ⟨n, b2, ?_, ?_, fun hh => absurd hh hsmall⟩
      · rw [b2, ← e, hdd]
        have h3 : 2 * (two d * n) ≤ 2 * oS b + two d := by
          rcases hn2 with ⟨rfl, _⟩ | ⟨rfl, _⟩
          · omega
          · rw [Nat.mul_add, Nat.mul_one]; omega
        have := Nat.mul_le_mul_right (two (149 - d)) h3
        rw [Nat.add_mul, Nat.mul_assoc 2, Nat.mul_assoc 2] at this
        rw [Nat.mul_right_comm (two d)]
        exact this
      · rw [b2, ← e, hdd]
        have h3 : 2 * oS b ≤ 2 * (two d * n) + two d := by
          rcases hn2 with ⟨rfl, _⟩ | ⟨rfl, _⟩
          · omega
          · rw [Nat.mul_add, Nat.mul_one]; omega
        have := Nat.mul_le_mul_right (two (149 - d)) h3
        rw [Nat.add_mul, Nat.mul_assoc 2, Nat.mul_assoc 2] at this
        rw [Nat.mul_right_comm (two d)]
        exact this
theorem even_int {b : Nat} (h : Fn b) : ∃ K : Int, val (wholeP 2 b) = ((two 149 : Nat) : Int) * K ∧ 2 * val (wholeP 2 b) ≤ 2 * val b + ((two 149 : Nat) : Int) ∧ 2 * val b ≤ 2 * val (wholeP 2 b) + ((two 149 : Nat) : Int) ∧ (8388608 * two 149 ≤ (val b).natAbs → val (wholeP 2 b) = val b) := by
  obtain ⟨e1, e2, e3, e4⟩ := even_is h
  obtain ⟨n, n1, n2, n3, n4⟩ := evk_int h
  rw [val_abs, e1, val_sum _ (by omega), val_on b]
  cases oN b
  · simp only [Bool.false_eq_true, if_false]
    refine ⟨(n : Int), by rw [n1, Int.natCast_mul], by omega, by omega, fun hh => by rw [n4 hh]⟩
  · simp only [if_true]
    refine ⟨-(n : Int), by rw [n1, Int.natCast_mul, Int.mul_neg], by omega, by omega, fun hh => by rw [n4 hh]⟩
theorem toInt_val {k : Nat} {K : Int} (h : Fn k) (hv : val k = ((two 149 : Nat) : Int) * K) (hK : K.natAbs ≤ 4398046511104) : toIntP k = K := by
  have ha : amt (absP k) = two 149 * K.natAbs := by rw [← val_abs, hv, Int.natAbs_mul]; rfl
  have hc := (cut_whole ha).1
  have hlt : absP k < 1593835520 := by
    refine amt_lt_iff.1 ?_
    have e : amt 1593835520 = two 212 := amt_pow (k := 212) (by decide)
    rw [ha, e, show 212 = 149 + 63 from rfl, two_add]
    exact Nat.mul_lt_mul_of_pos_left (Nat.lt_of_le_of_lt hK (by decide)) (two_pos _)
  unfold toIntP
  rw [if_neg (by rw [h.ok.nan]; decide), if_neg (by omega), hc]
  have hq := two_pos 149
  rw [val_on, ha, Int.natCast_mul] at hv
  have hq' : (0 : Int) < ((two 149 : Nat) : Int) := by omega
  cases e1 : oN k
  · rw [e1] at hv
    simp only [Bool.false_eq_true, if_false] at hv ⊢
    exact Int.eq_of_mul_eq_mul_left (by omega) hv
  · rw [e1] at hv
    simp only [if_true] at hv ⊢
    rw [← Int.mul_neg] at hv
    exact Int.eq_of_mul_eq_mul_left (by omega) hv
end Go.Proofs.Ytegeadkilolngaa
