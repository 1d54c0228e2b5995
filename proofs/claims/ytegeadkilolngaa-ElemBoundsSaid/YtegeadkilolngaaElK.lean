/- Plain: what a float is worth, and how the near rounding keeps it. -/
import Derived.Test.YtegeadkilolngaaRdY
namespace Go.Proofs.Ytegeadkilolngaa

/-- to the nearest: the bits without the sign -/
def rm (p q : Nat) : Nat := rnd 0 false p q
theorem rnd_near (neg : Bool) (p q : Nat) : rnd 0 neg p q = sgn neg + rm p q := by
  have hi : ∀ n, inw 0 n = false := by intro n; cases n <;> rfl
  have ho : ∀ n, outw 0 n = false := by intro n; cases n <;> rfl
  unfold rm rnd rndM hugeP
  generalize cut p q = m
  rw [hi, hi, ho, ho]
  have z : ∀ k, sgn false + k = k := fun k => Nat.zero_add k
  by_cases h1 : m = 2139095040
  · rw [if_pos h1, if_pos h1]; rw [z]
  · rw [if_neg h1, if_neg h1]
    by_cases h2 : amt m * q = p ∨ false = true
    · rw [if_pos h2, if_pos h2, z]
    · rw [if_neg h2, if_neg h2, if_neg (show ¬ (false = true) by decide), if_neg (show ¬ (false = true) by decide)]
      by_cases h3 : (amt m + amt (m + 1)) * q < 2 * p ∨ (amt m + amt (m + 1)) * q = 2 * p ∧ m % 2 = 1
      · rw [if_pos h3, if_pos h3, z]
      · rw [if_neg h3, if_neg h3, z]
theorem rm_le (p q : Nat) : rm p q ≤ 2139095040 := by
  obtain ⟨k, e1, e2, -⟩ := rnd_form 0 false p q
  have : rm p q = 0 + k := e1
  omega
theorem rm_zero {q : Nat} (hq : 0 < q) : rm 0 q = 0 := rnd_zero 0 false hq
theorem rm_mono {p p' q : Nat} (h : p ≤ p') : rm p q ≤ rm p' q := rnd_mono h
theorem rm_exact {p q m : Nat} (hm : m < 2139095040) (hq : 0 < q) (h : amt m * q = p) : rm p q = m := by
  have := rnd_exact (way := 0) (neg := false) hm hq h
  have z : sgn false + m = m := Nat.zero_add m
  rw [z] at this
  exact this
theorem rm_top {p q m : Nat} (hm : m < 2139095040) (hq : 0 < q) (h : p ≤ amt m * q) : rm p q ≤ m := by
  have := rm_mono (q := q) h
  rw [rm_exact hm hq rfl] at this
  exact this
theorem rm_low {p q m : Nat} (hm : m < 2139095040) (hq : 0 < q) (h : amt m * q ≤ p) : m ≤ rm p q := by
  have := rm_mono (q := q) h
  rw [rm_exact hm hq rfl] at this
  exact this
/-- one step of the bits is a small part of the amount -/
theorem amt_step (m : Nat) : 8388608 * amt (m + 1) ≤ 8388608 * amt m + 8388608 + amt m := by
  by_cases h : m % 8388608 + 1 < 8388608
  · have h1 : (m + 1) / 8388608 = m / 8388608 := by omega
    have h2 : (m + 1) % 8388608 = m % 8388608 + 1 := by omega
    unfold amt
    rw [h1, h2]
    split
    · omega
    · rw [show 8388608 + (m % 8388608 + 1) = (8388608 + m % 8388608) + 1 from by omega, Nat.add_mul (8388608 + m % 8388608), Nat.one_mul, Nat.add_mul]
      generalize two (m / 8388608 - 1) = t
      generalize m % 8388608 * t = x
      omega
  · have h1 : (m + 1) / 8388608 = m / 8388608 + 1 := by omega
    have h2 : (m + 1) % 8388608 = 0 := by omega
    unfold amt
    rw [h1, h2, if_neg (by omega : ¬ (m / 8388608 + 1 = 0))]
    split
    · rename_i h0
      rw [h0]
      show 8388608 * (8388608 * 1) ≤ _
      omega
    · rename_i h0
      have e : m / 8388608 + 1 - 1 = (m / 8388608 - 1) + 1 := by omega
      rw [e, two_succ, show m % 8388608 = 8388607 from by omega]
      generalize two (m / 8388608 - 1) = t
      omega
theorem rm_err {p q : Nat} (h : p < amt 2139095040 * q) :
    8388608 * (amt (rm p q) * q) ≤ 8388608 * p + 8388608 * q + p ∧ 8388608 * p ≤ 8388608 * (amt (rm p q) * q) + 8388608 * q + p := by
  obtain ⟨k, e1, e2, e3, e4, -⟩ := rnd_form 0 false p q
  have ek : rm p q = k := by have : rm p q = 0 + k := e1; omega
  rw [ek]
  obtain ⟨c1, c2, c3⟩ := cut_is p q
  have hc : cut p q < 2139095040 := by
    rcases Nat.lt_or_ge (cut p q) 2139095040 with h' | h'
    · exact h'
    · have := Nat.mul_le_mul_right q (amt_mono h')
      omega
  have h3 := c3 hc
  have hk : k = cut p q ∨ k = cut p q + 1 := by
    rcases e3 with e3 | ⟨e3, -⟩ <;> omega
  have st := Nat.mul_le_mul_right q (amt_step (cut p q))
  rw [Nat.add_mul, Nat.add_mul, Nat.mul_assoc, Nat.mul_assoc] at st
  generalize cut p q = m at *
  rcases hk with rfl | rfl
  · generalize amt (k + 1) * q = y at *
    generalize amt k * q = x at *
    omega
  · generalize amt (m + 1) * q = y at *
    generalize amt m * q = x at *
    omega
/-- a whole number of parts, rounded: what it is worth then -/
def rv (N : Int) (q : Nat) : Int := if N < 0 then -((amt (rm N.natAbs q) : Nat) : Int) else ((amt (rm N.natAbs q) : Nat) : Int)
theorem rv_abs (N : Int) (q : Nat) : (rv N q).natAbs = amt (rm N.natAbs q) := by
  unfold rv
  split
  · rw [Int.natAbs_neg]; rfl
  · rfl
theorem rv_neg {N : Int} {q : Nat} (hq : 0 < q) : rv (-N) q = -rv N q := by
  unfold rv
  rw [Int.natAbs_neg]
  by_cases h0 : N = 0
  · subst h0
    rw [show (0 : Int).natAbs = 0 from rfl, rm_zero hq]
    rfl
  · by_cases h : N < 0
    · rw [if_neg (by omega), if_pos h, Int.neg_neg]
    · rw [if_pos (by omega), if_neg h]
theorem rv_mono {N M : Int} {q : Nat} (h : N ≤ M) : rv N q ≤ rv M q := by
  unfold rv
  by_cases h1 : N < 0
  · rw [if_pos h1]
    by_cases h2 : M < 0
    · rw [if_pos h2]
      have := amt_mono (rm_mono (q := q) (show M.natAbs ≤ N.natAbs by omega))
      omega
    · rw [if_neg h2]; omega
  · rw [if_neg h1, if_neg (show ¬ M < 0 by omega)]
    have := amt_mono (rm_mono (q := q) (show N.natAbs ≤ M.natAbs by omega))
    omega
/-- of the exact one, and of what is below or above it -/
theorem rv_exact {M : Int} {m q : Nat} (hm : m < 2139095040) (hq : 0 < q) (h : M.natAbs = amt m) : rv (M * q) q = M := by
  have hn : (M * (q : Int)).natAbs = amt m * q := by rw [Int.natAbs_mul, h]; rfl
  have he := rm_exact hm hq (p := (M * (q : Int)).natAbs) hn.symm
  unfold rv
  rw [he, ← h]
  by_cases h1 : M < 0
  · have : M * (q : Int) < 0 := Int.mul_neg_of_neg_of_pos h1 (by omega)
    rw [if_pos this]; omega
  · have : 0 ≤ M * (q : Int) := Int.mul_nonneg (by omega) (by omega)
    rw [if_neg (by omega)]; omega
theorem rv_top {N M : Int} {m q : Nat} (hm : m < 2139095040) (hq : 0 < q) (h : M.natAbs = amt m) (hN : N ≤ M * q) : rv N q ≤ M := by
  have := rv_mono (q := q) hN
  rw [rv_exact hm hq h] at this
  exact this
theorem rv_low {N M : Int} {m q : Nat} (hm : m < 2139095040) (hq : 0 < q) (h : M.natAbs = amt m) (hN : M * q ≤ N) : M ≤ rv N q := by
  have := rv_mono (q := q) hN
  rw [rv_exact hm hq h] at this
  exact this
theorem rv_err {N : Int} {q E : Nat} (hq : 0 < q) (hE : E < amt 2139095040) (h : N.natAbs ≤ E * q) :
    (8388608 * (rv N q * q - N)).natAbs ≤ 8388608 * q + E * q := by
  have hlt : N.natAbs < amt 2139095040 * q := Nat.lt_of_le_of_lt h (Nat.mul_lt_mul_of_pos_right hE hq)
  obtain ⟨h1, h2⟩ := rm_err hlt
  unfold rv
  by_cases hn : N < 0
  · rw [if_pos hn, Int.neg_mul]
    have e : ((amt (rm N.natAbs q) : Nat) : Int) * (q : Int) = ((amt (rm N.natAbs q) * q : Nat) : Int) := by rw [Int.natCast_mul]
    rw [e]
    generalize amt (rm N.natAbs q) * q = y at *
    omega
  · rw [if_neg hn]
    have e : ((amt (rm N.natAbs q) : Nat) : Int) * (q : Int) = ((amt (rm N.natAbs q) * q : Nat) : Int) := by rw [Int.natCast_mul]
    rw [e]
    generalize amt (rm N.natAbs q) * q = y at *
    omega
/-- finite; a number -/
def Fn (a : Nat) : Prop := a < 4294967296 ∧ absP a < 2139095040
def Ok (a : Nat) : Prop := a < 4294967296 ∧ absP a ≤ 2139095040
theorem Fn.ok {a : Nat} (h : Fn a) : Ok a := ⟨h.1, Nat.le_of_lt h.2⟩
theorem Ok.nan {a : Nat} (h : Ok a) : nanP a = false := by
  have := h.2
  unfold nanP absP at *
  rw [decide_eq_false (by omega)]
theorem Fn.inf {a : Nat} (h : Fn a) : infP a = false := by
  have := h.2
  unfold infP absP at *
  rw [decide_eq_false (by omega)]
theorem ok_of {a : Nat} (h : a < 4294967296) (hn : nanP a = false) : Ok a := ⟨h, by
  unfold nanP absP at *
  have := of_decide_eq_false hn
  omega⟩
theorem fn_of {a : Nat} (h : Ok a) (hi : infP a = false) : Fn a := ⟨h.1, by
  have := h.2
  unfold infP absP at *
  have := of_decide_eq_false hi
  omega⟩
theorem val_abs (a : Nat) : (val a).natAbs = amt (absP a) := by
  unfold val
  split
  · rw [Int.natAbs_neg]; rfl
  · rfl
theorem val_on (a : Nat) : val a = if oN a = true then -((amt (absP a) : Nat) : Int) else ((amt (absP a) : Nat) : Int) := by
  unfold val oN
  by_cases h : 2147483648 ≤ a
  · rw [if_pos h, if_pos (decide_eq_true h)]
  · rw [if_neg h, if_neg (by rw [decide_eq_false h]; decide)]
theorem val_sum (neg : Bool) {k : Nat} (h : k < 2147483648) : val (sgn neg + k) = if neg = true then -((amt k : Nat) : Int) else ((amt k : Nat) : Int) := by
  rw [val_on, oN_sum neg h, abs_sum neg h]
theorem rv_of (neg : Bool) (p : Nat) {q : Nat} (hq : 0 < q) : (if neg = true then -((amt (rm p q) : Nat) : Int) else ((amt (rm p q) : Nat) : Int)) = rv (if neg = true then -(p : Int) else (p : Int)) q := by
  cases neg
  · unfold rv
    simp only [Bool.false_eq_true, if_false]
    rw [if_neg (by omega)]
    rfl
  · rw [if_pos rfl, if_pos rfl, rv_neg hq]
    unfold rv
    rw [if_neg (by omega)]
    rfl
theorem rnd_val (neg : Bool) (p : Nat) {q : Nat} (hq : 0 < q) : Ok (rnd 0 neg p q) ∧ val (rnd 0 neg p q) = rv (if neg = true then -(p : Int) else (p : Int)) q := by
  have hl := rm_le p q
  rw [rnd_near]
  refine ⟨⟨?_, ?_⟩, ?_⟩
  · cases neg
    · show 0 + _ < _; omega
    · show 2147483648 + _ < _; omega
  · rw [abs_sum neg (by omega)]; exact hl
  · rw [val_sum neg (by omega), rv_of neg p hq]
theorem rv_zero {q : Nat} (hq : 0 < q) : rv 0 q = 0 := by
  unfold rv
  rw [if_neg (by omega), show (0 : Int).natAbs = 0 from rfl, rm_zero hq]
  rfl
theorem val_mul (a b : Nat) : (if sgnX a b = true then -((amt (absP a) * amt (absP b) : Nat) : Int) else ((amt (absP a) * amt (absP b) : Nat) : Int)) = val a * val b := by
  rw [val_on, val_on]
  show (if (oN a != oN b) = true then _ else _) = _
  rw [Int.natCast_mul]
  cases oN a <;> cases oN b <;> simp [Int.neg_mul, Int.mul_neg]
theorem mul_val {a b : Nat} (ha : Fn a) (hb : Fn b) : Ok (mulP 0 a b) ∧ val (mulP 0 a b) = rv (val a * val b) (two 149) := by
  rw [mul_fin 0 ha.ok.nan hb.ok.nan ha.inf hb.inf, ← val_mul]
  exact rnd_val _ _ (two_pos _)
theorem zero_val {a : Nat} (h : absP a = 0) : val a = 0 := by
  rw [val_on, h, amt_zero]
  split <;> rfl
theorem ok_sgn (neg : Bool) : Ok (sgn neg) ∧ val (sgn neg) = 0 := by cases neg <;> exact ⟨⟨by decide, by decide⟩, by rfl⟩
theorem sum_val (xn yn : Bool) (p q : Nat) {T : Nat} (hT : 0 < T) {r : Nat}
    (h : r = if xn = yn then rnd 0 xn (p + q) T else if p = q then sgn ((0 : Int) == 2) else if q < p then rnd 0 xn (p - q) T else rnd 0 yn (q - p) T) :
    Ok r ∧ val r = rv ((if xn = true then -(p : Int) else (p : Int)) + (if yn = true then -(q : Int) else (q : Int))) T := by
  by_cases h1 : xn = yn
  · subst h1
    rw [if_pos rfl] at h
    subst h
    have := rnd_val xn (p + q) hT
    have e : ((if xn = true then -((p + q : Nat) : Int) else ((p + q : Nat) : Int))) = (if xn = true then -(p : Int) else (p : Int)) + (if xn = true then -(q : Int) else (q : Int)) := by
      cases xn
      · simp only [Bool.false_eq_true, if_false]; omega
      · simp only [if_true]; omega
    rw [e] at this
    exact this
  · rw [if_neg h1] at h
    by_cases h2 : p = q
    · subst h2
      rw [if_pos rfl] at h
      subst h
      have e : (if xn = true then -(p : Int) else (p : Int)) + (if yn = true then -(p : Int) else (p : Int)) = 0 := by
        cases xn <;> cases yn
        · exact absurd rfl h1
        · simp only [if_true, Bool.false_eq_true, if_false]; omega
        · simp only [if_true, Bool.false_eq_true, if_false]; omega
        · exact absurd rfl h1
      rw [e, rv_zero hT]
      exact ok_sgn _
    · rw [if_neg h2] at h
      by_cases h3 : q < p
      · rw [if_pos h3] at h
        subst h
        have := rnd_val xn (p - q) hT
        have e : ((if xn = true then -((p - q : Nat) : Int) else ((p - q : Nat) : Int))) = (if xn = true then -(p : Int) else (p : Int)) + (if yn = true then -(q : Int) else (q : Int)) := by
          cases xn <;> cases yn
          · exact absurd rfl h1
          · simp only [if_true, Bool.false_eq_true, if_false]; omega
          · simp only [if_true, Bool.false_eq_true, if_false]; omega
          · exact absurd rfl h1
        rw [e] at this
        exact this
      · rw [if_neg h3] at h
        subst h
        have := rnd_val yn (q - p) hT
        have e : ((if yn = true then -((q - p : Nat) : Int) else ((q - p : Nat) : Int))) = (if xn = true then -(p : Int) else (p : Int)) + (if yn = true then -(q : Int) else (q : Int)) := by
          cases xn <;> cases yn
          · exact absurd rfl h1
          · simp only [if_true, Bool.false_eq_true, if_false]; omega
          · simp only [if_true, Bool.false_eq_true, if_false]; omega
          · exact absurd rfl h1
        rw [e] at this
        exact this
theorem add_val {a b : Nat} (ha : Fn a) (hb : Fn b) : Ok (addP 0 a b) ∧ val (addP 0 a b) = rv (val a + val b) 1 := by
  have h := add_law 0 ha.ok.nan ha.inf hb.ok.nan hb.inf
  by_cases hz : absP a = 0 ∧ absP b = 0
  · rw [if_pos hz] at h
    rw [h, zero_val hz.1, zero_val hz.2, Int.add_zero, rv_zero (by decide)]
    split
    · exact ⟨ha.ok, zero_val hz.1⟩
    · exact ok_sgn _
  · rw [if_neg hz] at h
    rw [val_on a, val_on b]
    exact sum_val (oN a) (oN b) _ _ (by decide) h
theorem fma_val {a b c : Nat} (ha : Fn a) (hb : Fn b) (hc : Fn c) : Ok (fmaP 0 a b c) ∧ val (fmaP 0 a b c) = rv (val a * val b + ((two 149 : Nat) : Int) * val c) (two 149) := by
  have hm : nanP (mulP 0 a b) = false := (mul_val ha hb).1.nan
  have h : fmaP 0 a b c = finP 0 (sgnX a b) c (oE a + oE b) (oS a * oS b) (oN c) (oE c) (oS c) := by
    unfold fmaP
    rw [if_neg (by rw [ha.ok.nan, hb.ok.nan, hc.ok.nan, hm]; simp), if_neg (by rw [ha.inf, hb.inf]; simp), if_neg (by rw [hc.inf]; simp)]
  rw [fma_law 0 hc.1 ha.2 hb.2 hc.2] at h
  have e2 : ((two 149 : Nat) : Int) * val c = if oN c = true then -((two 149 * amt (absP c) : Nat) : Int) else ((two 149 * amt (absP c) : Nat) : Int) := by
    rw [val_on c, Int.natCast_mul]
    split
    · rw [Int.mul_neg]
    · rfl
  rw [← val_mul, e2]
  by_cases hz : amt (absP a) * amt (absP b) = 0 ∧ two 149 * amt (absP c) = 0
  · rw [if_pos hz] at h
    rw [h, hz.1, hz.2]
    have e : (if sgnX a b = true then -((0 : Nat) : Int) else ((0 : Nat) : Int)) + (if oN c = true then -((0 : Nat) : Int) else ((0 : Nat) : Int)) = 0 := by
      cases sgnX a b <;> cases oN c <;> rfl
    rw [e, rv_zero (two_pos _)]
    have hc0 : absP c = 0 := by
      rcases Nat.mul_eq_zero.1 hz.2 with h | h
      · have := two_pos 149; omega
      · exact amt_nil.1 h
    split
    · exact ⟨hc.ok, zero_val hc0⟩
    · exact ok_sgn _
  · rw [if_neg hz] at h
    exact sum_val (sgnX a b) (oN c) _ _ (two_pos _) h
theorem div_val {a b : Nat} (ha : Fn a) (hb : Fn b) (h0 : absP b ≠ 0) : Ok (divP 0 a b) ∧ val (divP 0 a b) = rv (if sgnX a b = true then -((two 149 * amt (absP a) : Nat) : Int) else ((two 149 * amt (absP a) : Nat) : Int)) (amt (absP b)) := by
  have hb0 : 0 < amt (absP b) := by
    have := amt_smono (show 0 < absP b by omega)
    omega
  by_cases hz : absP a = 0
  · rw [div_nil 0 ha.ok.nan hb.ok.nan (.inr ⟨hz, h0⟩), hz, amt_zero, Nat.mul_zero]
    have e : (if sgnX a b = true then -((0 : Nat) : Int) else ((0 : Nat) : Int)) = 0 := by cases sgnX a b <;> rfl
    rw [e, rv_zero hb0]
    exact ok_sgn _
  · rw [div_fin 0 ha.ok.nan hb.ok.nan ha.inf hb.inf hz h0]
    exact rnd_val _ _ hb0
/-- finite, and not above 2^(k - 149) -/
def Bd (a k : Nat) : Prop := Fn a ∧ amt (absP a) ≤ two k
theorem amt_pow {k : Nat} (h : 23 ≤ k) : amt ((k - 22) * 8388608) = two k := by
  have := amt_at (U := k - 23) (m := 8388608) (.inr (Nat.le_refl _)) (by omega)
  rw [show (k - 23) * 8388608 + 8388608 = (k - 22) * 8388608 from by omega, ← two_23, ← two_add, show 23 + (k - 23) = k from by omega] at this
  exact this
theorem rm_bd {p q k : Nat} (hk : 23 ≤ k) (hk2 : k ≤ 276) (hq : 0 < q) (h : p ≤ two k * q) : amt (rm p q) ≤ two k := by
  rw [← amt_pow hk] at h ⊢
  exact amt_mono (rm_top (by omega) hq h)
theorem bd_of {r k : Nat} {N : Int} {q : Nat} (hk : 23 ≤ k) (hk2 : k ≤ 276) (hq : 0 < q) (hr : Ok r ∧ val r = rv N q) (h : N.natAbs ≤ two k * q) : Bd r k := by
  obtain ⟨h1, h2⟩ := hr
  have e : amt (absP r) = amt (rm N.natAbs q) := by rw [← val_abs, h2, rv_abs]
  have h3 : amt (absP r) ≤ two k := by rw [e]; exact rm_bd hk hk2 hq h
  refine ⟨⟨h1.1, ?_⟩, h3⟩
  rcases Nat.lt_or_ge (absP r) 2139095040 with h | h
  · exact h
  · have h4 := amt_mono h
    rw [amt_inf, ← two_23, ← two_add] at h4
    have h5 := two_le (show k + 1 ≤ 23 + 254 by omega)
    have h6 := two_pos k
    rw [two_succ] at h5
    omega
theorem Bd.mono {a i j : Nat} (h : Bd a i) (hij : i ≤ j) : Bd a j := ⟨h.1, Nat.le_trans h.2 (two_le hij)⟩
theorem Bd.ok {a i : Nat} (h : Bd a i) : Ok a := h.1.ok
theorem Bd.abs {a i : Nat} (h : Bd a i) : (val a).natAbs ≤ two i := by rw [val_abs]; exact h.2
theorem two_sum {i j l : Nat} (h1 : i + 1 ≤ l) (h2 : j + 1 ≤ l) : two i + two j ≤ two l := by
  have e1 := two_le h1
  have e2 := two_le h2
  rw [two_succ] at e1 e2
  omega
theorem bd_mul {a b i j l : Nat} (ha : Bd a i) (hb : Bd b j) (h : i + j ≤ l + 149) (hl : 23 ≤ l ∧ l ≤ 276) : Bd (mulP 0 a b) l := by
  refine bd_of hl.1 hl.2 (two_pos _) (mul_val ha.1 hb.1) ?_
  rw [Int.natAbs_mul, ← two_add]
  refine Nat.le_trans (Nat.mul_le_mul ha.abs hb.abs) ?_
  rw [← two_add]
  exact two_le h
theorem bd_fma {a b c i j k l : Nat} (ha : Bd a i) (hb : Bd b j) (hc : Bd c k) (h : i + j + 1 ≤ l + 149) (h2 : k + 1 ≤ l) (hl : 23 ≤ l ∧ l ≤ 276) : Bd (fmaP 0 a b c) l := by
  refine bd_of hl.1 hl.2 (two_pos _) (fma_val ha.1 hb.1 hc.1) ?_
  refine Nat.le_trans (Int.natAbs_add_le _ _) ?_
  rw [Int.natAbs_mul, Int.natAbs_mul, ← two_add]
  have h3 := Nat.mul_le_mul ha.abs hb.abs
  have h4 : ((two 149 : Nat) : Int).natAbs * (val c).natAbs ≤ two 149 * two k := Nat.mul_le_mul (Nat.le_refl _) hc.abs
  rw [← two_add] at h3 h4
  exact Nat.le_trans (Nat.add_le_add h3 h4) (two_sum (by omega) (by omega))
theorem bd_add {a b i j l : Nat} (ha : Bd a i) (hb : Bd b j) (h : i + 1 ≤ l) (h2 : j + 1 ≤ l) (hl : 23 ≤ l ∧ l ≤ 276) : Bd (addP 0 a b) l := by
  refine bd_of hl.1 hl.2 (by decide) (add_val ha.1 hb.1) ?_
  refine Nat.le_trans (Int.natAbs_add_le _ _) ?_
  rw [Nat.mul_one]
  exact Nat.le_trans (Nat.add_le_add ha.abs hb.abs) (two_sum h h2)
theorem abs_neg' {a : Nat} (h : a < 4294967296) : absP (negP a) = absP a := by unfold absP negP; split <;> omega
theorem neg_lt' {a : Nat} (h : a < 4294967296) : negP a < 4294967296 := by unfold negP; split <;> omega
theorem neg_neg' {a : Nat} (h : a < 4294967296) : negP (negP a) = a := by unfold negP; split <;> split <;> omega
theorem oN_neg' {a : Nat} (h : a < 4294967296) : oN (negP a) = !oN a := by
  unfold oN negP
  by_cases h1 : a < 2147483648
  · rw [if_pos h1, decide_eq_true (by omega), decide_eq_false (by omega)]; rfl
  · rw [if_neg h1, decide_eq_false (by omega), decide_eq_true (by omega)]; rfl
theorem val_neg' {a : Nat} (h : a < 4294967296) : val (negP a) = -val a := by
  rw [val_on, val_on, oN_neg' h, abs_neg' h]
  cases oN a
  · rw [if_pos (by rfl), if_neg (by decide)]
  · rw [if_neg (by decide), if_pos rfl, Int.neg_neg]
theorem nan_neg' {a : Nat} (h : a < 4294967296) : nanP (negP a) = nanP a := by
  have := abs_neg' h
  unfold absP at this
  unfold nanP
  rw [this]
theorem Ok.neg {a : Nat} (h : Ok a) : Ok (negP a) := ⟨neg_lt' h.1, by rw [abs_neg' h.1]; exact h.2⟩
theorem Fn.neg {a : Nat} (h : Fn a) : Fn (negP a) := ⟨neg_lt' h.1, by rw [abs_neg' h.1]; exact h.2⟩
theorem Bd.neg {a i : Nat} (h : Bd a i) : Bd (negP a) i := ⟨h.1.neg, by rw [abs_neg' h.1.1]; exact h.2⟩
end Go.Proofs.Ytegeadkilolngaa
