import Derived.Test.YtegeadkilolngaaMNat
import Derived.Test.YtegeadkilolngaaMSoft
/- Plain: products and quotients of floats are the exact ones, rounded; sums, products and quotients class by class. -/
namespace Go.Proofs.Ytegeadkilolngaa

theorem amt_nil {m : Nat} : amt m = 0 ↔ m = 0 := by
  constructor
  · intro h
    by_cases h0 : m = 0
    · exact h0
    · have := amt_smono (show 0 < m by omega)
      omega
  · rintro rfl; rfl
theorem open_all (a : Nat) : ∃ x, openN a = x ∧ x.nan = nanP a ∧ x.inf = infP a ∧ x.neg = decide (2147483648 ≤ a) ∧
    (nanP a = false → infP a = false → (x.sig = 0 ↔ absP a = 0) ∧ amtN x = amt (absP a)) ∧ x.sig < 16777216 ∧ -149 ≤ x.exp ∧ x.exp ≤ 104 := by
  obtain ⟨o1, o2⟩ := open_nan a
  have hok : (openN a).sig < 16777216 ∧ -149 ≤ (openN a).exp ∧ (openN a).exp ≤ 104 := by
    obtain ⟨xn, xnan, xinf, xe, xs, hx⟩ : ∃ xn xnan xinf xe xs, openN a = ⟨xn, xnan, xinf, xe, xs⟩ := ⟨_, _, _, _, _, rfl⟩
    rw [hx]
    exact openN_ok hx
  refine ⟨openN a, rfl, o1, o2, ?_, ?_, hok⟩
  · unfold openN; split
    · rfl
    · split <;> rfl
  · intro hn hi
    rw [hn] at o1
    rw [hi] at o2
    refine ⟨?_, amtN_open rfl o1 o2⟩
    unfold openN absP at *
    split at o1
    · rename_i h
      rw [if_pos h] at o2
      simp at o1 o2
      omega
    · rename_i h
      rw [if_neg h]
      split
      · rename_i h0
        show a % 8388608 = 0 ↔ _
        omega
      · rename_i h0
        show a % 8388608 + 8388608 = 0 ↔ _
        omega
theorem inf_abs {a : Nat} : infP a = true ↔ absP a = 2139095040 := by unfold infP absP; simp
theorem inf_nan {a : Nat} (h : infP a = true) : nanP a = false := by
  have := inf_abs.1 h
  unfold absP at this
  unfold nanP
  rw [decide_eq_false]
  omega
theorem fin_abs {a : Nat} (hn : nanP a = false) (hi : infP a = false) : absP a < 2139095040 := by
  unfold nanP at hn
  unfold infP at hi
  have h1 := of_decide_eq_false hn
  have h2 := of_decide_eq_false hi
  unfold absP
  omega
/-- the sign of a product -/
def sgnX (a b : Nat) : Bool := decide (2147483648 ≤ a) != decide (2147483648 ≤ b)
theorem mul_nan (way : Int) {a b : Nat} (h : nanP a = true ∨ nanP b = true) : mulP way a b = 2143289344 := by
  obtain ⟨x, hx, x1, x2, x3, x4, x5, x6, x7⟩ := open_all a
  obtain ⟨y, hy, y1, y2, y3, y4, y5, y6, y7⟩ := open_all b
  unfold mulP
  rw [hx, hy]
  unfold mulN
  rw [x1, y1]
  rcases h with h | h <;> rw [h] <;> simp
theorem mul_none (way : Int) {a b : Nat} (h : (infP a = true ∧ nanP b = false ∧ absP b = 0) ∨ (infP b = true ∧ nanP a = false ∧ absP a = 0)) : mulP way a b = 2143289344 := by
  obtain ⟨x, hx, x1, x2, x3, x4, x5, x6, x7⟩ := open_all a
  obtain ⟨y, hy, y1, y2, y3, y4, y5, y6, y7⟩ := open_all b
  unfold mulP
  rw [hx, hy]
  unfold mulN
  rw [x1, y1, x2, y2]
  rcases h with ⟨h1, h2, h3⟩ | ⟨h1, h2, h3⟩
  · have h4 : infP b = false := by
      cases h : infP b
      · rfl
      · rw [inf_abs.1 h] at h3; cases h3
    have h5 := (y4 h2 h4).1.2 h3
    rw [h1, h2, h4, h5]
    simp
  · have h4 : infP a = false := by
      cases h : infP a
      · rfl
      · rw [inf_abs.1 h] at h3; cases h3
    have h5 := (x4 h2 h4).1.2 h3
    rw [h1, h2, h4, h5]
    simp
theorem mul_inf (way : Int) {a b : Nat} (hna : nanP a = false) (hnb : nanP b = false) (h : (infP a = true ∧ absP b ≠ 0) ∨ (infP b = true ∧ absP a ≠ 0)) : mulP way a b = sgn (sgnX a b) + 2139095040 := by
  obtain ⟨x, hx, x1, x2, x3, x4, x5, x6, x7⟩ := open_all a
  obtain ⟨y, hy, y1, y2, y3, y4, y5, y6, y7⟩ := open_all b
  unfold mulP
  rw [hx, hy]
  unfold mulN
  rw [x1, y1, x2, y2, hna, hnb, x3, y3]
  have e1 : infP a = false → (x.sig = 0 ↔ absP a = 0) := fun h => (x4 hna h).1
  have e2 : infP b = false → (y.sig = 0 ↔ absP b = 0) := fun h => (y4 hnb h).1
  cases ha : infP a <;> cases hb : infP b
  · rw [ha, hb] at h; simp at h
  · have h3 : absP a ≠ 0 := by
      rcases h with ⟨h, _⟩ | ⟨_, h⟩
      · rw [ha] at h; cases h
      · exact h
    have h5 : ¬ x.sig = 0 := fun e => h3 ((e1 ha).1 e)
    simp [h5, sgnX]
  · have h3 : absP b ≠ 0 := by
      rcases h with ⟨_, h⟩ | ⟨h, _⟩
      · exact h
      · rw [hb] at h; cases h
    have h5 : ¬ y.sig = 0 := fun e => h3 ((e2 hb).1 e)
    simp [h5, sgnX]
  · simp [sgnX]
theorem mul_fin (way : Int) {a b : Nat} (hna : nanP a = false) (hnb : nanP b = false) (hia : infP a = false) (hib : infP b = false) :
    mulP way a b = rnd way (sgnX a b) (amt (absP a) * amt (absP b)) (two 149) := by
  obtain ⟨x, hx, x1, x2, x3, x4, x5, x6, x7⟩ := open_all a
  obtain ⟨y, hy, y1, y2, y3, y4, y5, y6, y7⟩ := open_all b
  unfold mulP
  rw [hx, hy]
  unfold mulN
  rw [x1, y1, x2, y2, hna, hnb, hia, hib, x3, y3]
  rw [← (x4 hna hia).2, ← (y4 hnb hib).2]
  simp only [Bool.false_and, Bool.or_false, Bool.false_eq_true, if_false, Bool.not_false]
  show roundP way (sgnX a b) _ _ _ = _
  generalize sgnX a b = s
  obtain ⟨i, hi⟩ : ∃ i : Nat, x.exp + 149 = (i : Int) := ⟨(x.exp + 149).toNat, by omega⟩
  obtain ⟨j, hj⟩ : ∃ j : Nat, y.exp + 149 = (j : Int) := ⟨(y.exp + 149).toNat, by omega⟩
  unfold amtN
  rw [show (x.exp + 149).toNat = i from by omega, show (y.exp + 149).toNat = j from by omega]
  have epr : x.sig * two i * (y.sig * two j) = x.sig * y.sig * two (i + j) := by
    rw [two_add]
    generalize two i = p; generalize two j = q
    rw [Nat.mul_assoc, Nat.mul_assoc, Nat.mul_left_comm p]
  rw [epr]
  by_cases h0 : x.sig * y.sig = 0
  · rw [h0, Nat.zero_mul, rnd_zero way s (two_pos _)]
    unfold roundP
    rw [if_pos ⟨rfl, rfl⟩]
  · have hlt : x.sig * y.sig < 18446744073709551616 := by
      have h1 := Nat.mul_le_mul (show x.sig ≤ 16777215 by omega) (show y.sig ≤ 16777215 by omega)
      omega
    refine round_rnd (by omega) hlt (two_pos _) ?_
    unfold RV
    simp only [Bool.false_eq_true, if_false]
    rw [Nat.mul_assoc (x.sig * y.sig), ← two_add, ← two_add]
    congr 2
    omega
theorem div_none (way : Int) {a b : Nat} (h : nanP a = true ∨ nanP b = true ∨ (infP a = true ∧ infP b = true) ∨ (absP a = 0 ∧ absP b = 0)) : divP way a b = 2143289344 := by
  obtain ⟨x, hx, x1, x2, x3, x4, x5, x6, x7⟩ := open_all a
  obtain ⟨y, hy, y1, y2, y3, y4, y5, y6, y7⟩ := open_all b
  unfold divP
  rw [hx, hy]
  unfold divN
  rw [x1, y1, x2, y2]
  have hz : ∀ {c : Nat}, absP c = 0 → nanP c = false ∧ infP c = false := fun {c} h => by
    unfold nanP infP
    unfold absP at h
    rw [h]
    exact ⟨rfl, rfl⟩
  rcases h with h | h | ⟨h1, h2⟩ | ⟨h1, h2⟩
  · rw [h]; simp
  · rw [h]; simp
  · rw [h1, h2]; simp
  · obtain ⟨p1, p2⟩ := hz h1
    obtain ⟨q1, q2⟩ := hz h2
    have r1 := (x4 p1 p2).1.2 h1
    have r2 := (y4 q1 q2).1.2 h2
    rw [p2, q2, r1, r2]
    simp
theorem div_inf (way : Int) {a b : Nat} (hna : nanP a = false) (hnb : nanP b = false) (h : (infP a = true ∧ infP b = false) ∨ (absP b = 0 ∧ absP a ≠ 0)) : divP way a b = sgn (sgnX a b) + 2139095040 := by
  obtain ⟨x, hx, x1, x2, x3, x4, x5, x6, x7⟩ := open_all a
  obtain ⟨y, hy, y1, y2, y3, y4, y5, y6, y7⟩ := open_all b
  unfold divP
  rw [hx, hy]
  unfold divN
  rw [x1, y1, x2, y2, hna, hnb, x3, y3]
  rcases h with ⟨h1, h2⟩ | ⟨h1, h2⟩
  · rw [h1, h2]; simp [sgnX]
  · have h3 : infP b = false := by
      cases h : infP b
      · rfl
      · rw [inf_abs.1 h] at h1; cases h1
    have r2 := (y4 hnb h3).1.2 h1
    cases ha : infP a
    · have r1 : ¬ x.sig = 0 := fun e => h2 ((x4 hna ha).1.1 e)
      rw [h3, r2]; simp [r1, sgnX]
    · rw [h3, r2]; simp [sgnX]
theorem div_nil (way : Int) {a b : Nat} (hna : nanP a = false) (hnb : nanP b = false) (h : (infP b = true ∧ infP a = false) ∨ (absP a = 0 ∧ absP b ≠ 0)) : divP way a b = sgn (sgnX a b) := by
  obtain ⟨x, hx, x1, x2, x3, x4, x5, x6, x7⟩ := open_all a
  obtain ⟨y, hy, y1, y2, y3, y4, y5, y6, y7⟩ := open_all b
  unfold divP
  rw [hx, hy]
  unfold divN
  rw [x1, y1, x2, y2, hna, hnb, x3, y3]
  rcases h with ⟨h1, h2⟩ | ⟨h1, h2⟩
  · rw [h1, h2]; simp [sgnX]
  · have h3 : infP a = false := by
      cases h : infP a
      · rfl
      · rw [inf_abs.1 h] at h1; cases h1
    have r2 := (x4 hna h3).1.2 h1
    cases hb : infP b
    · have r1 : ¬ y.sig = 0 := fun e => h2 ((y4 hnb hb).1.1 e)
      rw [h3, r2]; simp [r1, sgnX]
    · rw [h3, r2]; simp [sgnX]
/-- the quotient of what was made full -/
theorem quo_law {way : Int} {s : Bool} {xs ys i j kx ky : Nat} {E : Int} (hX : 8388608 ≤ xs * two kx) (hX2 : xs * two kx < 16777216) (hY : 8388608 ≤ ys * two ky) (hY2 : ys * two ky < 16777216) (hy0 : 0 < ys)
    (hE : E + 149 = (i : Int) - kx - (j : Int) + ky - 38 + 149) :
    roundP way s E (xs * two kx * 274877906944 / (ys * two ky)) (decide (xs * two kx * 274877906944 % (ys * two ky) ≠ 0)) = rnd way s (two 149 * (xs * two i)) (ys * two j) := by
  have hdm := Nat.div_add_mod (xs * two kx * 274877906944) (ys * two ky)
  have hml := Nat.mod_lt (xs * two kx * 274877906944) (show 0 < ys * two ky by omega)
  obtain ⟨Q, hQ⟩ : ∃ Q, xs * two kx * 274877906944 / (ys * two ky) = Q := ⟨_, rfl⟩
  obtain ⟨R, hR⟩ : ∃ R, xs * two kx * 274877906944 % (ys * two ky) = R := ⟨_, rfl⟩
  have hQ1 : 16777216 ≤ Q := by
    rw [← hQ, Nat.le_div_iff_mul_le (by omega)]
    clear hdm hml hE hQ hR
    generalize xs * two kx = X at *
    generalize ys * two ky = Y at *
    omega
  have hQ2 : Q < 18446744073709551616 := by
    rw [← hQ]
    refine Nat.lt_of_le_of_lt (Nat.div_le_self _ _) ?_
    clear hdm hml hE hQ hR hQ1
    generalize xs * two kx = X at *
    omega
  rw [hQ, hR] at hdm ⊢
  rw [hR] at hml
  clear hQ hR
  refine round_rnd (by omega) hQ2 (Nat.mul_pos hy0 (two_pos _)) ?_
  -- both sides once more by two ky
  have hA : two (E + 149).toNat * (ys * two j) * two ky = ys * two ky * (two (E + 149).toNat * two j) := by
    generalize two (E + 149).toNat = p; generalize two j = q; generalize two ky = r
    rw [Nat.mul_left_comm p, Nat.mul_assoc ys, Nat.mul_comm (p * q) r, ← Nat.mul_assoc]
  have hT : two 149 * (xs * two i) * two (-(E + 149)).toNat * two ky = xs * two kx * 274877906944 * (two (E + 149).toNat * two j) := by
    have e1 : two 149 * two i * two (-(E + 149)).toNat * two ky = two kx * two 38 * (two (E + 149).toNat * two j) := by
      rw [← two_add, ← two_add, ← two_add, ← two_add, ← two_add, ← two_add]
      congr 1
      omega
    have e2 : two 149 * (xs * two i) * two (-(E + 149)).toNat * two ky = xs * (two 149 * two i * two (-(E + 149)).toNat * two ky) := by
      generalize two 149 = p; generalize two i = q; generalize two (-(E + 149)).toNat = r; generalize two ky = t
      rw [Nat.mul_left_comm p, Nat.mul_assoc xs, Nat.mul_assoc xs]
    rw [e2, e1, show two 38 = 274877906944 from rfl]
    generalize two (E + 149).toNat * two j = T
    rw [← Nat.mul_assoc, ← Nat.mul_assoc]
  have hT0 : 0 < two (E + 149).toNat * two j := Nat.mul_pos (two_pos _) (two_pos _)
  have hk := two_pos ky
  unfold RV
  dsimp only
  generalize two 149 * (xs * two i) * two (-(E + 149)).toNat = P at *
  generalize two (E + 149).toNat * (ys * two j) = A at *
  generalize two (E + 149).toNat * two j = T at *
  rw [← hdm] at hT
  clear hdm hX hX2
  generalize ys * two ky = Y at *
  have e3 : Q * A * two ky = Y * Q * T := by rw [Nat.mul_assoc, hA, ← Nat.mul_assoc, Nat.mul_comm Q]
  have e4 : (Q + 1) * A * two ky = Y * Q * T + Y * T := by rw [Nat.mul_assoc, hA, Nat.add_mul, Nat.one_mul, ← Nat.mul_assoc, Nat.mul_comm Q]
  rw [Nat.add_mul] at hT
  by_cases hr : R = 0
  · rw [decide_eq_false (by simpa using hr)]
    simp only [Bool.false_eq_true, if_false]
    refine Nat.eq_of_mul_eq_mul_right hk ?_
    rw [e3, hT, hr, Nat.zero_mul, Nat.add_zero]
  · rw [decide_eq_true hr]
    simp only [if_true]
    have h5 : R * T < Y * T := Nat.mul_lt_mul_of_pos_right hml hT0
    have h6 : 0 < R * T := Nat.mul_pos (by omega) hT0
    refine ⟨?_, ?_, .inl hQ1⟩
    · refine Nat.lt_of_mul_lt_mul_right (a := two ky) ?_
      rw [e3, hT]; omega
    · refine Nat.lt_of_mul_lt_mul_right (a := two ky) ?_
      rw [e4, hT]; omega
theorem div_fin (way : Int) {a b : Nat} (hna : nanP a = false) (hnb : nanP b = false) (hia : infP a = false) (hib : infP b = false) (h0 : absP a ≠ 0) (h0' : absP b ≠ 0) :
    divP way a b = rnd way (sgnX a b) (two 149 * amt (absP a)) (amt (absP b)) := by
  obtain ⟨x, hx, x1, x2, x3, x4, x5, x6, x7⟩ := open_all a
  obtain ⟨y, hy, y1, y2, y3, y4, y5, y6, y7⟩ := open_all b
  unfold divP
  rw [hx, hy]
  unfold divN
  have zx : ¬ x.sig = 0 := fun e => h0 ((x4 hna hia).1.1 e)
  have zy : ¬ y.sig = 0 := fun e => h0' ((y4 hnb hib).1.1 e)
  have bx : (x.sig == 0) = false := by rw [beq_eq_false_iff_ne]; exact zx
  have by' : (y.sig == 0) = false := by rw [beq_eq_false_iff_ne]; exact zy
  rw [x1, y1, x2, y2, hna, hnb, hia, hib, x3, y3, bx, by']
  rw [← (x4 hna hia).2, ← (y4 hnb hib).2]
  simp only [Bool.and_false, Bool.or_false, Bool.false_eq_true, if_false]
  show roundP way (sgnX a b) _ _ _ = _
  generalize sgnX a b = s
  obtain ⟨i, hi⟩ : ∃ i : Nat, x.exp + 149 = (i : Int) := ⟨(x.exp + 149).toNat, by omega⟩
  obtain ⟨j, hj⟩ : ∃ j : Nat, y.exp + 149 = (j : Int) := ⟨(y.exp + 149).toNat, by omega⟩
  obtain ⟨f1, f2, f3⟩ := full_sig (s := x.sig) (by omega) x5
  obtain ⟨g1, g2, g3⟩ := full_sig (s := y.sig) (by omega) y5
  unfold amtN fm fk
  rw [show (x.exp + 149).toNat = i from by omega, show (y.exp + 149).toNat = j from by omega]
  exact quo_law f1 f2 g1 g2 (by omega) (by omega)
theorem add_none (way : Int) {a b : Nat} (ha : a < 4294967296) (hb : b < 4294967296) (h : nanP a = true ∨ nanP b = true ∨ (infP a = true ∧ infP b = true ∧ a ≠ b)) : addP way a b = 2143289344 := by
  obtain ⟨x, hx, x1, x2, x3, x4, x5, x6, x7⟩ := open_all a
  obtain ⟨y, hy, y1, y2, y3, y4, y5, y6, y7⟩ := open_all b
  unfold addP
  rw [hx, hy]
  unfold addN
  rw [x1, y1, x2, y2, x3, y3]
  rcases h with h | h | ⟨h1, h2, h3⟩
  · rw [h]; simp
  · rw [h]; simp
  · have e1 := inf_abs.1 h1
    have e2 := inf_abs.1 h2
    have e3 : (decide (2147483648 ≤ a) != decide (2147483648 ≤ b)) = true := by
      unfold absP at e1 e2
      rw [bne_iff_ne]
      intro e
      by_cases h : 2147483648 ≤ a
      · rw [decide_eq_true h] at e
        have := of_decide_eq_true e.symm
        omega
      · rw [decide_eq_false h] at e
        have := of_decide_eq_false e.symm
        omega
    rw [h1, h2, e3]
    simp
theorem add_inf (way : Int) {a b : Nat} (hna : nanP a = false) (hnb : nanP b = false) (h : (infP a = true ∧ (infP b = false ∨ a = b)) ∨ (infP a = false ∧ infP b = true)) : addP way a b = if infP a = true then a else b := by
  obtain ⟨x, hx, x1, x2, x3, x4, x5, x6, x7⟩ := open_all a
  obtain ⟨y, hy, y1, y2, y3, y4, y5, y6, y7⟩ := open_all b
  unfold addP
  rw [hx, hy]
  unfold addN
  rw [x1, y1, x2, y2, x3, y3, hna, hnb]
  rcases h with ⟨h1, h2 | h2⟩ | ⟨h1, h2⟩
  · rw [h1, h2]; simp
  · rw [h1, h2]; simp
  · rw [h1, h2]; simp
end Go.Proofs.Ytegeadkilolngaa

/- Small contracts of the document's chapter, and of Minus by worth. -/
namespace Go.Proofs.Ytegeadkilolngaa
open Go.RowKit

theorem rabs_at {a r : Nat} {w : World} (h : Hid (a < 4294967296)) (hr : Hid (absP a = r)) : Calls Try.prog 16 #[.int .u32 (a : Int)] w fun e w' => e = .returned (.int .u32 (r : Int)) ∧ w' = w := by
  have := rabs_any a w h
  rw [hr.out] at this
  exact this
theorem signed_any (neg : Bool) (m : Nat) (w : World) (h : m ≤ 2147483647) : Calls Try.prog 100 #[.bool neg, .int .u32 (m : Int)] w fun e w' => e = .returned (.int .u32 ((sgn neg + m : Nat) : Int)) ∧ w' = w := by
  have e1 : ((sgn true + m : Nat) : Int) = (m : Int) + 2147483648 := by show ((2147483648 + m : Nat) : Int) = _; omega
  have e2 : ((sgn false + m : Nat) : Int) = (m : Int) := by show ((0 + m : Nat) : Int) = _; omega
  have E1 := Lib.hid e1
  have E2 := Lib.hid e2
  clear e1 e2
  cases neg
  · go_enter Try.func100, Try.ntmps100
    go_wp2
    go_ret
    exact ⟨by rw [E2.out]; try rfl, rfl⟩
  · go_enter Try.func100, Try.ntmps100
    go_wp2
    go_ret
    exact ⟨by rw [E1.out]; try rfl, rfl⟩
theorem minus_nv {A A' : Option Addr} {n n' cap cap' B B' x y v : Nat} {w : World} (ha : NV w B A n x) (hb : NV w B' A' n' y) (hx : x < two 30000) (hle : y ≤ x) (hv : Hid (x - y = v)) :
    Calls Try.prog 101 #[.slice A n cap, .slice A' n' cap'] w (NR w v) := by
  have hl := ha.len hx
  obtain ⟨l, h1, h2, h3, h4, h5, h6⟩ := ha
  obtain ⟨m, g1, g2, g3, g4, g5, g6⟩ := hb
  have hnn : n' ≤ n := by
    by_cases hh : n' ≤ n
    · exact hh
    · have := trim_len h3 g4 (by omega)
      omega
  have := minus_any (cap := cap) (cap' := cap') (Lib.hid h1) (Lib.hid g1) hl hnn h6 g6 h2 g2 (Lib.hid h3) (Lib.hid g3) (Lib.hid (by rw [h5, g5]; exact hle))
  rw [h5, g5, hv.out] at this
  exact this.mono fun _ _ h => h.nr
theorem amt_amt {x y : Nat} (hx : x ≤ 2139095040) (hy : y ≤ 2139095040) : amt x * amt y < two 10000 := by
  have h1 : amt x * amt y ≤ two 277 * two 277 := Nat.mul_le_mul (amt_le hx) (amt_le hy)
  rw [← two_add] at h1
  have h2 := two_le (show 277 + 277 + 1 ≤ 10000 by omega)
  have h3 := two_pos (277 + 277)
  rw [two_succ] at h2
  omega
theorem amt_ten {x : Nat} (hx : x ≤ 2139095040) : amt x < two 10000 := by
  have h1 := amt_le hx
  have h2 := two_le (show 277 + 1 ≤ 10000 by omega)
  have h3 := two_pos 277
  rw [two_succ] at h2
  omega
theorem amt_plus {x y : Nat} (hx : x ≤ 2139095040) (hy : y ≤ 2139095040) : amt x + amt y < two 10000 := by
  have h1 := amt_le hx
  have h1' := amt_le hy
  have h2 := two_le (show 277 + 1 + 1 ≤ 10000 by omega)
  have h3 := two_pos 277
  rw [two_succ, two_succ] at h2
  omega
theorem amt_149 {x : Nat} (hx : x ≤ 2139095040) : two 149 * amt x < two 10000 := by
  have h1 : two 149 * amt x ≤ two 149 * two 277 := Nat.mul_le_mul_left _ (amt_le hx)
  rw [← two_add] at h1
  have h2 := two_le (show 149 + 277 + 1 ≤ 10000 by omega)
  have h3 := two_pos (149 + 277)
  rw [two_succ] at h2
  omega
theorem big149 : two 149 < two 10000 := by
  have h2 := two_le (show 149 + 1 ≤ 10000 by omega)
  have h3 := two_pos 149
  rw [two_succ] at h2
  omega
theorem big_1 : 1 < two 10000 := by
  have h2 := two_le (show 0 + 1 ≤ 10000 by omega)
  exact Nat.lt_of_lt_of_le (by decide) h2
theorem nil_len {w : World} {B : Nat} {A : Option Addr} {n v : Nat} (h : NV w B A n v) (hv : v = 0) : ((n : Int) == 0) = true := by
  have := (nv_zero h).1 hv
  subst this
  rfl
theorem some_len {w : World} {B : Nat} {A : Option Addr} {n v : Nat} (h : NV w B A n v) (hv : v ≠ 0) : ((n : Int) == 0) = false := by
  rw [beq_eq_false_iff_ne]
  intro e
  exact hv ((nv_zero h).2 (by omega))
theorem int_eq {x y : Nat} (h : x = y) : ((x : Int) == (y : Int)) = true := by subst h; simp
theorem int_ne {x y : Nat} (h : x ≠ y) : ((x : Int) == (y : Int)) = false := by rw [beq_eq_false_iff_ne]; omega
end Go.Proofs.Ytegeadkilolngaa

/- The contract of the document's MulBy. -/
namespace Go.Proofs.Ytegeadkilolngaa
open Go.RowKit

set_option maxRecDepth 100000 in
set_option maxHeartbeats 1600000 in
theorem rmul_any (way : Int) (a b : Nat) (w : World) (h : Hid (a < 4294967296)) (h' : Hid (b < 4294967296)) :
    Calls Try.prog 89 #[.int .i64 way, .int .u32 (a : Int), .int .u32 (b : Int)] w (BR w (mulP way a b)) := by
  obtain ⟨x, hx⟩ : ∃ x, absP a = x := ⟨_, rfl⟩
  obtain ⟨y, hy⟩ : ∃ y, absP b = y := ⟨_, rfl⟩
  obtain ⟨sa, hsa⟩ : ∃ s, decide (2147483648 ≤ a) = s := ⟨_, rfl⟩
  obtain ⟨sb, hsb⟩ : ∃ s, decide (2147483648 ≤ b) = s := ⟨_, rfl⟩
  have HX := Lib.hid hx
  have HY := Lib.hid hy
  have SA := Lib.hid hsa
  have SB := Lib.hid hsb
  obtain ⟨sn, hsn⟩ : ∃ s, (sa != sb) = s := ⟨_, rfl⟩
  have hsn2 : (!(sa == sb)) = sn := hsn
  have SN : Hid (sgnX a b = sn) := Lib.hid (by unfold sgnX; rw [hsa, hsb, hsn])
  cases hna : nanP a
  case true =>
    have NA := Lib.hid hna
    have HE : Hid (mulP way a b = 2143289344) := Lib.hid (mul_nan way (.inl hna))
    clear hna hx hy hsa hsb
    go_enter Try.func89, Try.ntmps89
    have hB0 := Below.refl w.heap.size w
    have hz0 := hB0.size
    go_wp2_with fail
    refine (rbelow_at SA).mono ?_
    rintro e w' ⟨rfl, rfl⟩
    go_wp2_with fail
    refine (rbelow_at SB).mono ?_
    rintro e w' ⟨rfl, rfl⟩
    go_wp2_with fail
    refine (rnone_at h NA).mono ?_
    rintro e w' ⟨rfl, rfl⟩
    go_wp2
    go_ret
    exact ⟨by rw [HE.out]; try rfl, hB0⟩
  have NA := Lib.hid hna
  cases hnb : nanP b
  case true =>
    have NB := Lib.hid hnb
    have HE : Hid (mulP way a b = 2143289344) := Lib.hid (mul_nan way (.inr hnb))
    clear hna hnb hx hy hsa hsb
    go_enter Try.func89, Try.ntmps89
    have hB0 := Below.refl w.heap.size w
    have hz0 := hB0.size
    go_wp2_with fail
    refine (rbelow_at SA).mono ?_
    rintro e w' ⟨rfl, rfl⟩
    go_wp2_with fail
    refine (rbelow_at SB).mono ?_
    rintro e w' ⟨rfl, rfl⟩
    go_wp2_with fail
    refine (rnone_at h NA).mono ?_
    rintro e w' ⟨rfl, rfl⟩
    go_wp2_with fail
    refine (rnone_at h' NB).mono ?_
    rintro e w' ⟨rfl, rfl⟩
    go_wp2
    go_ret
    exact ⟨by rw [HE.out]; try rfl, hB0⟩
  have NB := Lib.hid hnb
  by_cases hxi : x = 2139095040
  case pos =>
    have IA : infP a = true := inf_abs.2 (hx.trans hxi)
    have bx : ((x : Int) == 2139095040) = true := int_eq hxi
    have bx0 : ((x : Int) == 0) = false := int_ne (y := 0) (by omega)
    by_cases hy0 : y = 0
    · have HE : Hid (mulP way a b = 2143289344) := Lib.hid (mul_none way (.inl ⟨IA, hnb, hy.trans hy0⟩))
      have by0 : ((y : Int) == 0) = true := int_eq (y := 0) hy0
      clear hna hnb hx hy hsa hsb IA hxi hy0
      go_enter Try.func89, Try.ntmps89
      have hB0 := Below.refl w.heap.size w
      have hz0 := hB0.size
      go_wp2_with fail
      refine (rbelow_at SA).mono ?_
      rintro e w' ⟨rfl, rfl⟩
      go_wp2_with fail
      refine (rbelow_at SB).mono ?_
      rintro e w' ⟨rfl, rfl⟩
      go_wp2_with fail
      refine (rnone_at h NA).mono ?_
      rintro e w' ⟨rfl, rfl⟩
      go_wp2_with fail
      refine (rnone_at h' NB).mono ?_
      rintro e w' ⟨rfl, rfl⟩
      go_wp2_with fail
      refine (rabs_at h HX).mono ?_
      rintro e w' ⟨rfl, rfl⟩
      go_wp2_with fail
      refine (rabs_at h HX).mono ?_
      rintro e w' ⟨rfl, rfl⟩
      go_wp2_with fail
      refine (rabs_at h' HY).mono ?_
      rintro e w' ⟨rfl, rfl⟩
      go_wp2
      go_ret
      exact ⟨by rw [HE.out]; try rfl, hB0⟩
    · have HE : Hid (mulP way a b = sgn sn + 2139095040) := Lib.hid (by rw [mul_inf way hna hnb (.inl ⟨IA, by rw [hy]; exact hy0⟩), SN.out])
      have by0 : ((y : Int) == 0) = false := int_ne (y := 0) hy0
      clear hna hnb hx hy hsa hsb IA hxi hy0
      go_enter Try.func89, Try.ntmps89
      have hB0 := Below.refl w.heap.size w
      have hz0 := hB0.size
      go_wp2_with fail
      refine (rbelow_at SA).mono ?_
      rintro e w' ⟨rfl, rfl⟩
      go_wp2_with fail
      refine (rbelow_at SB).mono ?_
      rintro e w' ⟨rfl, rfl⟩
      go_wp2_with fail
      refine (rnone_at h NA).mono ?_
      rintro e w' ⟨rfl, rfl⟩
      go_wp2_with fail
      refine (rnone_at h' NB).mono ?_
      rintro e w' ⟨rfl, rfl⟩
      go_wp2_with fail
      refine (rabs_at h HX).mono ?_
      rintro e w' ⟨rfl, rfl⟩
      go_wp2_with fail
      refine (rabs_at h HX).mono ?_
      rintro e w' ⟨rfl, rfl⟩
      go_wp2_with fail
      refine (rabs_at h' HY).mono ?_
      rintro e w' ⟨rfl, rfl⟩
      go_wp2_with fail
      refine (signed_any sn 2139095040 _ (by decide)).mono ?_
      rintro e w' ⟨rfl, rfl⟩
      go_wp2
      go_ret
      exact ⟨by rw [HE.out]; try rfl, hB0⟩
  have IA : infP a = false := by cases h : infP a; · rfl
                                 · exact absurd (hx.symm.trans (inf_abs.1 h)) hxi
  have bx : ((x : Int) == 2139095040) = false := int_ne hxi
  by_cases hyi : y = 2139095040
  case pos =>
    have IB : infP b = true := inf_abs.2 (hy.trans hyi)
    have by' : ((y : Int) == 2139095040) = true := int_eq hyi
    have by0 : ((y : Int) == 0) = false := int_ne (y := 0) (by omega)
    by_cases hx0 : x = 0
    · have HE : Hid (mulP way a b = 2143289344) := Lib.hid (mul_none way (.inr ⟨IB, hna, hx.trans hx0⟩))
      have bx0 : ((x : Int) == 0) = true := int_eq (y := 0) hx0
      clear hna hnb hx hy hsa hsb IA IB hxi hyi hx0
      go_enter Try.func89, Try.ntmps89
      have hB0 := Below.refl w.heap.size w
      have hz0 := hB0.size
      go_wp2_with fail
      refine (rbelow_at SA).mono ?_
      rintro e w' ⟨rfl, rfl⟩
      go_wp2_with fail
      refine (rbelow_at SB).mono ?_
      rintro e w' ⟨rfl, rfl⟩
      go_wp2_with fail
      refine (rnone_at h NA).mono ?_
      rintro e w' ⟨rfl, rfl⟩
      go_wp2_with fail
      refine (rnone_at h' NB).mono ?_
      rintro e w' ⟨rfl, rfl⟩
      go_wp2_with fail
      refine (rabs_at h HX).mono ?_
      rintro e w' ⟨rfl, rfl⟩
      go_wp2_with fail
      refine (rabs_at h' HY).mono ?_
      rintro e w' ⟨rfl, rfl⟩
      go_wp2_with fail
      refine (rabs_at h HX).mono ?_
      rintro e w' ⟨rfl, rfl⟩
      go_wp2
      go_ret
      exact ⟨by rw [HE.out]; try rfl, hB0⟩
    · have HE : Hid (mulP way a b = sgn sn + 2139095040) := Lib.hid (by rw [mul_inf way hna hnb (.inr ⟨IB, by rw [hx]; exact hx0⟩), SN.out])
      have bx0 : ((x : Int) == 0) = false := int_ne (y := 0) hx0
      clear hna hnb hx hy hsa hsb IA IB hxi hyi hx0
      go_enter Try.func89, Try.ntmps89
      have hB0 := Below.refl w.heap.size w
      have hz0 := hB0.size
      go_wp2_with fail
      refine (rbelow_at SA).mono ?_
      rintro e w' ⟨rfl, rfl⟩
      go_wp2_with fail
      refine (rbelow_at SB).mono ?_
      rintro e w' ⟨rfl, rfl⟩
      go_wp2_with fail
      refine (rnone_at h NA).mono ?_
      rintro e w' ⟨rfl, rfl⟩
      go_wp2_with fail
      refine (rnone_at h' NB).mono ?_
      rintro e w' ⟨rfl, rfl⟩
      go_wp2_with fail
      refine (rabs_at h HX).mono ?_
      rintro e w' ⟨rfl, rfl⟩
      go_wp2_with fail
      refine (rabs_at h' HY).mono ?_
      rintro e w' ⟨rfl, rfl⟩
      go_wp2_with fail
      refine (rabs_at h HX).mono ?_
      rintro e w' ⟨rfl, rfl⟩
      go_wp2_with fail
      refine (rabs_at h' HY).mono ?_
      rintro e w' ⟨rfl, rfl⟩
      go_wp2_with fail
      refine (signed_any sn 2139095040 _ (by decide)).mono ?_
      rintro e w' ⟨rfl, rfl⟩
      go_wp2
      go_ret
      exact ⟨by rw [HE.out]; try rfl, hB0⟩
  have IB : infP b = false := by cases h : infP b; · rfl
                                 · exact absurd (hy.symm.trans (inf_abs.1 h)) hyi
  have by' : ((y : Int) == 2139095040) = false := int_ne hyi
  have lx := fin_abs hna IA
  have ly := fin_abs hnb IB
  rw [hx] at lx
  rw [hy] at ly
  have HE : Hid (mulP way a b = rnd way sn (amt x * amt y) (two 149)) := Lib.hid (by rw [mul_fin way hna hnb IA IB, SN.out, hx, hy])
  clear hna hnb hx hy hsa hsb IA IB hxi hyi
  go_enter Try.func89, Try.ntmps89
  have hB0 := Below.refl w.heap.size w
  have hz0 := hB0.size
  go_wp2_with fail
  refine (rbelow_at SA).mono ?_
  rintro e w' ⟨rfl, rfl⟩
  go_wp2_with fail
  refine (rbelow_at SB).mono ?_
  rintro e w' ⟨rfl, rfl⟩
  go_wp2_with fail
  refine (rnone_at h NA).mono ?_
  rintro e w' ⟨rfl, rfl⟩
  go_wp2_with fail
  refine (rnone_at h' NB).mono ?_
  rintro e w' ⟨rfl, rfl⟩
  go_wp2_with fail
  refine (rabs_at h HX).mono ?_
  rintro e w' ⟨rfl, rfl⟩
  go_wp2_with fail
  refine (rabs_at h' HY).mono ?_
  rintro e w' ⟨rfl, rfl⟩
  go_wp2_with fail
  refine (rabs_at h HX).mono ?_
  rintro e w' ⟨rfl, rfl⟩
  go_wp2_with fail
  refine (amount_nv x _ (by omega)).mono ?_
  rintro e W1 ⟨A1, k1, c1, rfl, v1, hC⟩
  have hB1 := hB0.trans (hC.mono hz0)
  have hz1 := hB1.size
  clear hC hB0 hz0
  go_wp2_with fail
  refine (rabs_at h' HY).mono ?_
  rintro e w' ⟨rfl, rfl⟩
  go_wp2_with fail
  refine (amount_nv y _ (by omega)).mono ?_
  rintro e W2 ⟨A2, k2, c2, rfl, v2, hC⟩
  have hB2 := hB1.trans (hC.mono hz1)
  have hz2 := hB2.size
  have v1 := v1.below hC
  clear hC hB1 hz1
  go_wp2_with fail
  refine (times_nv v1 v2 (amt_big (by omega)) (amt_big (by omega)) (Lib.hid rfl)).mono ?_
  rintro e W3 ⟨A3, k3, c3, rfl, v3, hC⟩
  have hB3 := hB2.trans (hC.mono hz2)
  have hz3 := hB3.size
  have v1 := v1.below hC
  have v2 := v2.below hC
  clear hC hB2 hz2
  go_wp2_with fail
  refine (of_nv 1 _ (Lib.hid (by decide))).mono ?_
  rintro e W4 ⟨A4, k4, c4, rfl, v4, hC⟩
  have hB4 := hB3.trans (hC.mono hz3)
  have hz4 := hB4.size
  have v1 := v1.below hC
  have v2 := v2.below hC
  have v3 := v3.below hC
  clear hC hB3 hz3
  go_wp2_with fail
  refine (twice_nv (k := 149) v4 (ten_thirty big_1) (by omega) (Lib.hid (Nat.mul_one (two 149)))).mono ?_
  rintro e W5 ⟨A5, k5, c5, rfl, v5, hC⟩
  have hB5 := hB4.trans (hC.mono hz4)
  have hz5 := hB5.size
  have v1 := v1.below hC
  have v2 := v2.below hC
  have v3 := v3.below hC
  have v4 := v4.below hC
  clear hC hB4 hz4
  go_wp2_with fail
  refine (rounded_any v3 v5 (Lib.hid (amt_amt (by omega) (by omega))) (Lib.hid big149)).mono ?_
  rintro e W6 ⟨rfl, hC⟩
  have hB6 := hB5.trans (hC.mono hz5)
  clear hC hB5 hz5
  go_wp2
  go_ret
  exact ⟨by rw [HE.out]; try rfl, hB6⟩
end Go.Proofs.Ytegeadkilolngaa

/- The contract of the document's DivBy. -/
namespace Go.Proofs.Ytegeadkilolngaa
open Go.RowKit

end Go.Proofs.Ytegeadkilolngaa

/- The contract of the document's AddBy. -/
namespace Go.Proofs.Ytegeadkilolngaa
open Go.RowKit

end Go.Proofs.Ytegeadkilolngaa

/- The contracts of the document's Add, Sub, Mul, Div. -/
namespace Go.Proofs.Ytegeadkilolngaa
open Go.RowKit

theorem rmul0_any (a b : Nat) (w : World) (h : Hid (a < 4294967296)) (h' : Hid (b < 4294967296)) : Calls Try.prog 71 #[.int .u32 (a : Int), .int .u32 (b : Int)] w (BR w (mulP 0 a b)) := by
  go_enter Try.func71, Try.ntmps71
  go_wp2_with fail
  refine (rmul_any 0 a b _ h h').mono ?_
  rintro e w' ⟨rfl, hb⟩
  go_wp2
  go_ret
  exact ⟨rfl, hb⟩
end Go.Proofs.Ytegeadkilolngaa

/- The contract of the document's Round: it answers as soft's Round does. -/
namespace Go.Proofs.Ytegeadkilolngaa
open Go.RowKit

def clipE (exp : Int) : Int := min (max exp (-700)) 300
theorem clip_round {way : Int} {neg : Bool} {exp : Int} {sig : Nat} {more : Bool} : roundP way neg exp sig more = roundP way neg (clipE exp) sig more := by
  unfold clipE
  by_cases h1 : exp < -700
  · have e : min (max exp (-700)) 300 = -700 := by omega
    rw [e]
    unfold roundP
    by_cases h : sig = 0 ∧ more = false
    · rw [if_pos h, if_pos h]
    · rw [if_neg h, if_neg h, if_pos (.inr (by omega)), if_pos (.inr (by omega))]
  · by_cases h2 : 300 < exp
    · have e : min (max exp (-700)) 300 = 300 := by omega
      rw [e]
      unfold roundP
      by_cases h : sig = 0 ∧ more = false
      · rw [if_pos h, if_pos h]
      · rw [if_neg h, if_neg h]
        by_cases h0 : sig = 0
        · rw [if_pos (.inl h0), if_pos (.inl h0)]
        · rw [if_neg (show ¬ (sig = 0 ∨ exp < -300) by omega), if_neg (show ¬ (sig = 0 ∨ (300 : Int) < -300) by omega), if_pos (show 200 < exp by omega), if_pos (show (200 : Int) < 300 by decide)]
    · rw [show min (max exp (-700)) 300 = exp from by omega]
theorem two_zero : two 0 = 1 := rfl
section
variable {way : Int} {neg : Bool} {E : Int} {sig k : Nat}
theorem rr_nil : roundP way neg E 0 true = rnd way neg 1 (two 400) := by
  rw [rnd_tiny way neg (by decide) (by have h1 := two_le (show 2 ≤ 400 by omega); have h2 : two 2 = 4 := rfl; omega)]
  unfold roundP
  rw [if_neg (by simp), if_pos (.inl rfl)]
theorem rr_pos (hk : E + 149 = (k : Int)) (hs64 : sig < 18446744073709551616) : roundP way neg E sig false = rnd way neg (two k * sig) 1 := by
  by_cases h0 : sig = 0
  · subst h0
    rw [Nat.mul_zero, rnd_zero way neg (by decide)]
    unfold roundP
    rw [if_pos ⟨rfl, rfl⟩]
  · refine round_rnd (by omega) hs64 (by decide) ?_
    unfold RV
    rw [show (-(E + 149)).toNat = 0 from by omega, show (E + 149).toNat = k from by omega, two_zero]
    simp only [Nat.mul_one]
    exact Nat.mul_comm _ _
theorem rr_neg (hk : -149 - E = (k : Int)) (hs64 : sig < 18446744073709551616) : roundP way neg E sig false = rnd way neg sig (two k) := by
  by_cases h0 : sig = 0
  · subst h0
    rw [rnd_zero way neg (two_pos k)]
    unfold roundP
    rw [if_pos ⟨rfl, rfl⟩]
  · refine round_rnd (by omega) hs64 (two_pos k) ?_
    unfold RV
    rw [show (-(E + 149)).toNat = k from by omega, show (E + 149).toNat = 0 from by omega, two_zero]
    simp only [Nat.one_mul, Bool.false_eq_true, if_false]
theorem more_rv {T : Nat} (hT : 0 < T) : sig * (T * two 80) < T * (two 80 * sig + 1) ∧ T * (two 80 * sig + 1) < (sig + 1) * (T * two 80) ∧ 33554432 * (T * (two 80 * sig + 1)) < (33554432 * sig + 1) * (T * two 80) := by
  have e1 : T * (two 80 * sig + 1) = sig * (T * two 80) + T := by rw [Nat.mul_add, Nat.mul_one, ← Nat.mul_assoc, Nat.mul_comm (T * two 80)]
  have e2 : (sig + 1) * (T * two 80) = sig * (T * two 80) + T * two 80 := by rw [Nat.add_mul, Nat.one_mul]
  have e3 : (33554432 * sig + 1) * (T * two 80) = 33554432 * (sig * (T * two 80)) + T * two 80 := by rw [Nat.add_mul, Nat.one_mul, Nat.mul_assoc]
  have e4 : T * 33554433 ≤ T * two 80 := Nat.mul_le_mul_left _ (by decide)
  rw [e1, e2, e3]
  generalize sig * (T * two 80) = X at *
  generalize T * two 80 = Y at *
  omega
theorem rr_more_pos (hk : E + 149 = (k : Int)) (hs : 0 < sig) (hs64 : sig < 18446744073709551616) : roundP way neg E sig true = rnd way neg (two k * (two 80 * sig + 1)) (two 80) := by
  refine round_rnd hs hs64 (two_pos _) ?_
  unfold RV
  rw [show (-(E + 149)).toNat = 0 from by omega, show (E + 149).toNat = k from by omega, two_zero]
  simp only [Nat.mul_one, if_true]
  obtain ⟨h1, h2, h3⟩ := more_rv (sig := sig) (two_pos k)
  exact ⟨h1, h2, .inr h3⟩
theorem rr_more_neg (hk : -149 - E = (k : Int)) (hs : 0 < sig) (hs64 : sig < 18446744073709551616) : roundP way neg E sig true = rnd way neg (two 80 * sig + 1) (two k * two 80) := by
  refine round_rnd hs hs64 (Nat.mul_pos (two_pos _) (two_pos _)) ?_
  unfold RV
  rw [show (-(E + 149)).toNat = k from by omega, show (E + 149).toNat = 0 from by omega, two_zero]
  simp only [Nat.one_mul, if_true]
  obtain ⟨h1, h2, h3⟩ := more_rv (sig := sig) (two_pos k)
  rw [Nat.mul_comm (two 80 * sig + 1)]
  exact ⟨h1, h2, .inr h3⟩
end
theorem sig_64 {sig : Nat} (h : sig < 18446744073709551616) : sig < two 64 := h
theorem big_pos {sig k : Nat} (h : sig < 18446744073709551616) (hk : k ≤ 1000) : two k * sig < two 10000 := by
  have h1 : two k * sig ≤ two k * two 64 := Nat.mul_le_mul_left _ (Nat.le_of_lt (sig_64 h))
  rw [← two_add] at h1
  have h2 := two_le (show k + 64 + 1 ≤ 10000 by omega)
  have h3 := two_pos (k + 64)
  rw [two_succ] at h2
  omega
theorem big_one {k : Nat} (hk : k ≤ 9000) : two k < two 10000 := by
  have h2 := two_le (show k + 1 ≤ 10000 by omega)
  have h3 := two_pos k
  rw [two_succ] at h2
  omega
theorem big_sig {sig : Nat} (h : sig < 18446744073709551616) : sig < two 10000 := by
  have := big_pos (k := 0) h (by omega)
  rw [two_zero, Nat.one_mul] at this
  exact this
theorem more_le {sig : Nat} (h : sig < 18446744073709551616) : two 80 * sig + 1 ≤ two 145 := by
  have h1 : two 80 * sig ≤ two 80 * two 64 := Nat.mul_le_mul_left _ (Nat.le_of_lt (sig_64 h))
  rw [← two_add] at h1
  have h3 := two_pos (80 + 64)
  have h4 := two_succ (80 + 64)
  have h5 : two (80 + 64 + 1) = two 145 := rfl
  omega
theorem big_more {sig k : Nat} (h : sig < 18446744073709551616) (hk : k ≤ 1000) : two k * (two 80 * sig + 1) < two 10000 := by
  have h1 : two k * (two 80 * sig + 1) ≤ two k * two 145 := Nat.mul_le_mul_left _ (more_le h)
  rw [← two_add] at h1
  have h2 := two_le (show k + 145 + 1 ≤ 10000 by omega)
  have h3 := two_pos (k + 145)
  rw [two_succ] at h2
  omega
theorem big_more1 {sig : Nat} (h : sig < 18446744073709551616) : two 80 * sig + 1 < two 10000 := by
  have := big_more (k := 0) h (by omega)
  rw [two_zero, Nat.one_mul] at this
  exact this
theorem big_two {k : Nat} (hk : k ≤ 1000) : two k * two 80 < two 10000 := by
  rw [← two_add]
  exact big_one (k := k + 80) (by omega)
theorem one_big : 1 < two 10000 := big_one (k := 0) (by omega)

end Go.Proofs.Ytegeadkilolngaa
