/- Plain: products and quotients of floats are the exact ones, rounded; sums, products and quotients class by class. -/
import Derived.Test.YtanccobllehnaaaAddP
namespace Go.Proofs.Ytanccobllehnaaa

theorem amt_nil {m : Nat} : amt m = 0 ↔ m = 0 := by
  constructor
  · intro h
    by_cases h0 : m = 0
    · exact h0
    · have := amt_smono (show 0 < m by omega)
      omega
  · rintro rfl; rfl
theorem open_all (a : Nat) : ∃ x, openN a = x ∧ x.nan = nanP a ∧ x.inf = infP a ∧ x.neg = decide (2147483648 ≤ a) ∧
    (nanP a = false → infP a = false → (x.sig = 0 ↔ absP a = 0) ∧ amtN x = amt (absP a)) ∧ x.sig < 16777216 ∧ -149 ≤ x.exp ∧ x.exp ≤ 104 := by
  obtain ⟨o1, o2⟩ := open_nan a
  have hok : (openN a).sig < 16777216 ∧ -149 ≤ (openN a).exp ∧ (openN a).exp ≤ 104 := by
    obtain ⟨xn, xnan, xinf, xe, xs, hx⟩ : ∃ xn xnan xinf xe xs, openN a = ⟨xn, xnan, xinf, xe, xs⟩ := ⟨_, _, _, _, _, rfl⟩
    rw [hx]
    exact openN_ok hx
  refine ⟨openN a, rfl, o1, o2, ?_, ?_, hok⟩
  · unfold openN; split
    · rfl
    · split <;> rfl
  · intro hn hi
    rw [hn] at o1
    rw [hi] at o2
    refine ⟨?_, amtN_open rfl o1 o2⟩
    unfold openN absP at *
    split at o1
    · rename_i h
      rw [if_pos h] at o2
      simp at o1 o2
      omega
    · rename_i h
      rw [if_neg h]
      split
      · rename_i h0
        show a % 8388608 = 0 ↔ _
        omega
      · rename_i h0
        show a % 8388608 + 8388608 = 0 ↔ _
        omega
theorem inf_abs {a : Nat} : infP a = true ↔ absP a = 2139095040 := by unfold infP absP; simp
theorem inf_nan {a : Nat} (h : infP a = true) : nanP a = false := by
  have := inf_abs.1 h
  unfold absP at this
  unfold nanP
  rw [decide_eq_false]
  omega
theorem fin_abs {a : Nat} (hn : nanP a = false) (hi : infP a = false) : absP a < 2139095040 := by
  unfold nanP at hn
  unfold infP at hi
  have h1 := of_decide_eq_false hn
  have h2 := of_decide_eq_false hi
  unfold absP
  omega
/-- the sign of a product -/
def sgnX (a b : Nat) : Bool := decide (2147483648 ≤ a) != decide (2147483648 ≤ b)
theorem mul_nan (way : Int) {a b : Nat} (h : nanP a = true ∨ nanP b = true) : mulP way a b = 2143289344 := by
  obtain ⟨x, hx, x1, x2, x3, x4, x5, x6, x7⟩ := open_all a
  obtain ⟨y, hy, y1, y2, y3, y4, y5, y6, y7⟩ := open_all b
  unfold mulP
  rw [hx, hy]
  unfold mulN
  rw [x1, y1]
  rcases h with h | h <;> rw [h] <;> simp
theorem mul_none (way : Int) {a b : Nat} (h : (infP a = true ∧ nanP b = false ∧ absP b = 0) ∨ (infP b = true ∧ nanP a = false ∧ absP a = 0)) : mulP way a b = 2143289344 := by
  obtain ⟨x, hx, x1, x2, x3, x4, x5, x6, x7⟩ := open_all a
  obtain ⟨y, hy, y1, y2, y3, y4, y5, y6, y7⟩ := open_all b
  unfold mulP
  rw [hx, hy]
  unfold mulN
  rw [x1, y1, x2, y2]
  rcases h with ⟨h1, h2, h3⟩ | ⟨h1, h2, h3⟩
  · have h4 : infP b = false := by
      cases h : infP b
      · rfl
      · rw [inf_abs.1 h] at h3; cases h3
    have h5 := (y4 h2 h4).1.2 h3
    rw [h1, h2, h4, h5]
    simp
  · have h4 : infP a = false := by
      cases h : infP a
      · rfl
      · rw [inf_abs.1 h] at h3; cases h3
    have h5 := (x4 h2 h4).1.2 h3
    rw [h1, h2, h4, h5]
    simp
theorem mul_inf (way : Int) {a b : Nat} (hna : nanP a = false) (hnb : nanP b = false) (h : (infP a = true ∧ absP b ≠ 0) ∨ (infP b = true ∧ absP a ≠ 0)) : mulP way a b = sgn (sgnX a b) + 2139095040 := by
  obtain ⟨x, hx, x1, x2, x3, x4, x5, x6, x7⟩ := open_all a
  obtain ⟨y, hy, y1, y2, y3, y4, y5, y6, y7⟩ := open_all b
  unfold mulP
  rw [hx, hy]
  unfold mulN
  rw [x1, y1, x2, y2, hna, hnb, x3, y3]
  have e1 : infP a = false → (x.sig = 0 ↔ absP a = 0) := fun h => (x4 hna h).1
  have e2 : infP b = false → (y.sig = 0 ↔ absP b = 0) := fun h => (y4 hnb h).1
  cases ha : infP a <;> cases hb : infP b
  · rw [ha, hb] at h; simp at h
  · have h3 : absP a ≠ 0 := by
      rcases h with ⟨h, _⟩ | ⟨_, h⟩
      · rw [ha] at h; cases h
      · exact h
    have h5 : ¬ x.sig = 0 := fun e => h3 ((e1 ha).1 e)
    simp [h5, sgnX]
  · have h3 : absP b ≠ 0 := by
      rcases h with ⟨_, h⟩ | ⟨h, _⟩
      · exact h
      · rw [hb] at h; cases h
    have h5 : ¬ y.sig = 0 := fun e => h3 ((e2 hb).1 e)
    simp [h5, sgnX]
  · simp [sgnX]
theorem mul_fin (way : Int) {a b : Nat} (hna : nanP a = false) (hnb : nanP b = false) (hia : infP a = false) (hib : infP b = false) :
    mulP way a b = rnd way (sgnX a b) (amt (absP a) * amt (absP b)) (two 149) := by
  obtain ⟨x, hx, x1, x2, x3, x4, x5, x6, x7⟩ := open_all a
  obtain ⟨y, hy, y1, y2, y3, y4, y5, y6, y7⟩ := open_all b
  unfold mulP
  rw [hx, hy]
  unfold mulN
  rw [x1, y1, x2, y2, hna, hnb, hia, hib, x3, y3]
  rw [← (x4 hna hia).2, ← (y4 hnb hib).2]
  simp only [Bool.false_and, Bool.or_false, Bool.false_eq_true, if_false, Bool.not_false]
  show roundP way (sgnX a b) _ _ _ = _
  generalize sgnX a b = s
  obtain ⟨i, hi⟩ : ∃ i : Nat, x.exp + 149 = (i : Int) := ⟨(x.exp + 149).toNat, by omega⟩
  obtain ⟨j, hj⟩ : ∃ j : Nat, y.exp + 149 = (j : Int) := ⟨(y.exp + 149).toNat, by omega⟩
  unfold amtN
  rw [show (x.exp + 149).toNat = i from by omega, show (y.exp + 149).toNat = j from by omega]
  have epr : x.sig * two i * (y.sig * two j) = x.sig * y.sig * two (i + j) := by
    rw [two_add]
    generalize two i = p; generalize two j = q
    rw [Nat.mul_assoc, Nat.mul_assoc, Nat.mul_left_comm p]
  rw [epr]
  by_cases h0 : x.sig * y.sig = 0
  · rw [h0, Nat.zero_mul, rnd_zero way s (two_pos _)]
    unfold roundP
    rw [if_pos ⟨rfl, rfl⟩]
  · have hlt : x.sig * y.sig < 18446744073709551616 := by
      have h1 := Nat.mul_le_mul (show x.sig ≤ 16777215 by omega) (show y.sig ≤ 16777215 by omega)
      omega
    refine round_rnd (by omega) hlt (two_pos _) ?_
    unfold RV
    simp only [Bool.false_eq_true, if_false]
    rw [Nat.mul_assoc (x.sig * y.sig), ← two_add, ← two_add]
    congr 2
    omega
theorem div_none (way : Int) {a b : Nat} (h : nanP a = true ∨ nanP b = true ∨ (infP a = true ∧ infP b = true) ∨ (absP a = 0 ∧ absP b = 0)) : divP way a b = 2143289344 := by
  obtain ⟨x, hx, x1, x2, x3, x4, x5, x6, x7⟩ := open_all a
  obtain ⟨y, hy, y1, y2, y3, y4, y5, y6, y7⟩ := open_all b
  unfold divP
  rw [hx, hy]
  unfold divN
  rw [x1, y1, x2, y2]
  have hz : ∀ {c : Nat}, absP c = 0 → nanP c = false ∧ infP c = false := fun {c} h => by
    unfold nanP infP
    unfold absP at h
    rw [h]
    exact ⟨rfl, rfl⟩
  rcases h with h | h | ⟨h1, h2⟩ | ⟨h1, h2⟩
  · rw [h]; simp
  · rw [h]; simp
  · rw [h1, h2]; simp
  · obtain ⟨p1, p2⟩ := hz h1
    obtain ⟨q1, q2⟩ := hz h2
    have r1 := (x4 p1 p2).1.2 h1
    have r2 := (y4 q1 q2).1.2 h2
    rw [p2, q2, r1, r2]
    simp
theorem div_inf (way : Int) {a b : Nat} (hna : nanP a = false) (hnb : nanP b = false) (h : (infP a = true ∧ infP b = false) ∨ (absP b = 0 ∧ absP a ≠ 0)) : divP way a b = sgn (sgnX a b) + 2139095040 := by
  obtain ⟨x, hx, x1, x2, x3, x4, x5, x6, x7⟩ := open_all a
  obtain ⟨y, hy, y1, y2, y3, y4, y5, y6, y7⟩ := open_all b
  unfold divP
  rw [hx, hy]
  unfold divN
  rw [x1, y1, x2, y2, hna, hnb, x3, y3]
  rcases h with ⟨h1, h2⟩ | ⟨h1, h2⟩
  · rw [h1, h2]; simp [sgnX]
  · have h3 : infP b = false := by
      cases h : infP b
      · rfl
      · rw [inf_abs.1 h] at h1; cases h1
    have r2 := (y4 hnb h3).1.2 h1
    cases ha : infP a
    · have r1 : ¬ x.sig = 0 := fun e => h2 ((x4 hna ha).1.1 e)
      rw [h3, r2]; simp [r1, sgnX]
    · rw [h3, r2]; simp [sgnX]
theorem div_nil (way : Int) {a b : Nat} (hna : nanP a = false) (hnb : nanP b = false) (h : (infP b = true ∧ infP a = false) ∨ (absP a = 0 ∧ absP b ≠ 0)) : divP way a b = sgn (sgnX a b) := by
  obtain ⟨x, hx, x1, x2, x3, x4, x5, x6, x7⟩ := open_all a
  obtain ⟨y, hy, y1, y2, y3, y4, y5, y6, y7⟩ := open_all b
  unfold divP
  rw [hx, hy]
  unfold divN
  rw [x1, y1, x2, y2, hna, hnb, x3, y3]
  rcases h with ⟨h1, h2⟩ | ⟨h1, h2⟩
  · rw [h1, h2]; simp [sgnX]
  · have h3 : infP a = false := by
      cases h : infP a
      · rfl
      · rw [inf_abs.1 h] at h1; cases h1
    have r2 := (x4 hna h3).1.2 h1
    cases hb : infP b
    · have r1 : ¬ y.sig = 0 := fun e => h2 ((y4 hnb hb).1.1 e)
      rw [h3, r2]; simp [r1, sgnX]
    · rw [h3, r2]; simp [sgnX]
/-- the quotient of what was made full -/
theorem quo_law {way : Int} {s : Bool} {xs ys i j kx ky : Nat} {E : Int} (hX : 8388608 ≤ xs * two kx) (hX2 : xs * two kx < 16777216) (hY : 8388608 ≤ ys * two ky) (hY2 : ys * two ky < 16777216) (hy0 : 0 < ys)
    (hE : E + 149 = (i : Int) - kx - (j : Int) + ky - 38 + 149) :
    roundP way s E (xs * two kx * 274877906944 / (ys * two ky)) (decide (xs * two kx * 274877906944 % (ys * two ky) ≠ 0)) = rnd way s (two 149 * (xs * two i)) (ys * two j) := by
  have hdm := Nat.div_add_mod (xs * two kx * 274877906944) (ys * two ky)
  have hml := Nat.mod_lt (xs * two kx * 274877906944) (show 0 < ys * two ky by omega)
  obtain ⟨Q, hQ⟩ : ∃ Q, xs * two kx * 274877906944 / (ys * two ky) = Q := ⟨_, rfl⟩
  obtain ⟨R, hR⟩ : ∃ R, xs * two kx * 274877906944 % (ys * two ky) = R := ⟨_, rfl⟩
  have hQ1 : 16777216 ≤ Q := by
    rw [← hQ, Nat.le_div_iff_mul_le (by omega)]
    clear hdm hml hE hQ hR
    generalize xs * two kx = X at *
    generalize ys * two ky = Y at *
    omega
  have hQ2 : Q < 18446744073709551616 := by
    rw [← hQ]
    refine Nat.lt_of_le_of_lt (Nat.div_le_self _ _) ?_
    clear hdm hml hE hQ hR hQ1
    generalize xs * two kx = X at *
    omega
  rw [hQ, hR] at hdm ⊢
  rw [hR] at hml
  clear hQ hR
  refine round_rnd (by omega) hQ2 (Nat.mul_pos hy0 (two_pos _)) ?_
  -- both sides once more by two ky
  have hA : two (E + 149).toNat * (ys * two j) * two ky = ys * two ky * (two (E + 149).toNat * two j) := by
    generalize two (E + 149).toNat = p; generalize two j = q; generalize two ky = r
    rw [Nat.mul_left_comm p, Nat.mul_assoc ys, Nat.mul_comm (p * q) r, ← Nat.mul_assoc]
  have hT : two 149 * (xs * two i) * two (-(E + 149)).toNat * two ky = xs * two kx * 274877906944 * (two (E + 149).toNat * two j) := by
    have e1 : two 149 * two i * two (-(E + 149)).toNat * two ky = two kx * two 38 * (two (E + 149).toNat * two j) := by
      rw [← two_add, ← two_add, ← two_add, ← two_add, ← two_add, ← two_add]
      congr 1
      omega
    have e2 : two 149 * (xs * two i) * two (-(E + 149)).toNat * two ky = xs * (two 149 * two i * two (-(E + 149)).toNat * two ky) := by
      generalize two 149 = p; generalize two i = q; generalize two (-(E + 149)).toNat = r; generalize two ky = t
      rw [Nat.mul_left_comm p, Nat.mul_assoc xs, Nat.mul_assoc xs]
    rw [e2, e1, show two 38 = 274877906944 from rfl]
    generalize two (E + 149).toNat * two j = T
    rw [← Nat.mul_assoc, ← Nat.mul_assoc]
  have hT0 : 0 < two (E + 149).toNat * two j := Nat.mul_pos (two_pos _) (two_pos _)
  have hk := two_pos ky
  unfold RV
  dsimp only
  generalize two 149 * (xs * two i) * two (-(E + 149)).toNat = P at *
  generalize two (E + 149).toNat * (ys * two j) = A at *
  generalize two (E + 149).toNat * two j = T at *
  rw [← hdm] at hT
  clear hdm hX hX2
  generalize ys * two ky = Y at *
  have e3 : Q * A * two ky = Y * Q * T := by rw [Nat.mul_assoc, hA, ← Nat.mul_assoc, Nat.mul_comm Q]
  have e4 : (Q + 1) * A * two ky = Y * Q * T + Y * T := by rw [Nat.mul_assoc, hA, Nat.add_mul, Nat.one_mul, ← Nat.mul_assoc, Nat.mul_comm Q]
  rw [Nat.add_mul] at hT
  by_cases hr : R = 0
  · rw [decide_eq_false (by simpa using hr)]
    simp only [Bool.false_eq_true, if_false]
    refine Nat.eq_of_mul_eq_mul_right hk ?_
    rw [e3, hT, hr, Nat.zero_mul, Nat.add_zero]
  · rw [decide_eq_true hr]
    simp only [if_true]
    have h5 : R * T < Y * T := Nat.mul_lt_mul_of_pos_right hml hT0
    have h6 : 0 < R * T := Nat.mul_pos (by omega) hT0
    refine ⟨?_, ?_, .inl hQ1⟩
    · refine Nat.lt_of_mul_lt_mul_right (a := two ky) ?_
      rw [e3, hT]; omega
    · refine Nat.lt_of_mul_lt_mul_right (a := two ky) ?_
      rw [e4, hT]; omega
theorem div_fin (way : Int) {a b : Nat} (hna : nanP a = false) (hnb : nanP b = false) (hia : infP a = false) (hib : infP b = false) (h0 : absP a ≠ 0) (h0' : absP b ≠ 0) :
    divP way a b = rnd way (sgnX a b) (two 149 * amt (absP a)) (amt (absP b)) := by
  obtain ⟨x, hx, x1, x2, x3, x4, x5, x6, x7⟩ := open_all a
  obtain ⟨y, hy, y1, y2, y3, y4, y5, y6, y7⟩ := open_all b
  unfold divP
  rw [hx, hy]
  unfold divN
  have zx : ¬ x.sig = 0 := fun e => h0 ((x4 hna hia).1.1 e)
  have zy : ¬ y.sig = 0 := fun e => h0' ((y4 hnb hib).1.1 e)
  have bx : (x.sig == 0) = false := by rw [beq_eq_false_iff_ne]; exact zx
  have by' : (y.sig == 0) = false := by rw [beq_eq_false_iff_ne]; exact zy
  rw [x1, y1, x2, y2, hna, hnb, hia, hib, x3, y3, bx, by']
  rw [← (x4 hna hia).2, ← (y4 hnb hib).2]
  simp only [Bool.and_false, Bool.or_false, Bool.false_eq_true, if_false]
  show roundP way (sgnX a b) _ _ _ = _
  generalize sgnX a b = s
  obtain ⟨i, hi⟩ : ∃ i : Nat, x.exp + 149 = (i : Int) := ⟨(x.exp + 149).toNat, by omega⟩
  obtain ⟨j, hj⟩ : ∃ j : Nat, y.exp + 149 = (j : Int) := ⟨(y.exp + 149).toNat, by omega⟩
  obtain ⟨f1, f2, f3⟩ := full_sig (s := x.sig) (by omega) x5
  obtain ⟨g1, g2, g3⟩ := full_sig (s := y.sig) (by omega) y5
  unfold amtN fm fk
  rw [show (x.exp + 149).toNat = i from by omega, show (y.exp + 149).toNat = j from by omega]
  exact quo_law f1 f2 g1 g2 (by omega) (by omega)
theorem add_none (way : Int) {a b : Nat} (ha : a < 4294967296) (hb : b < 4294967296) (h : nanP a = true ∨ nanP b = true ∨ (infP a = true ∧ infP b = true ∧ a ≠ b)) : addP way a b = 2143289344 := by
  obtain ⟨x, hx, x1, x2, x3, x4, x5, x6, x7⟩ := open_all a
  obtain ⟨y, hy, y1, y2, y3, y4, y5, y6, y7⟩ := open_all b
  unfold addP
  rw [hx, hy]
  unfold addN
  rw [x1, y1, x2, y2, x3, y3]
  rcases h with h | h | ⟨h1, h2, h3⟩
  · rw [h]; simp
  · rw [h]; simp
  · have e1 := inf_abs.1 h1
    have e2 := inf_abs.1 h2
    have e3 : (decide (2147483648 ≤ a) != decide (2147483648 ≤ b)) = true := by
      unfold absP at e1 e2
      rw [bne_iff_ne]
      intro e
      by_cases h : 2147483648 ≤ a
      · rw [decide_eq_true h] at e
        have := of_decide_eq_true e.symm
        omega
      · rw [decide_eq_false h] at e
        have := of_decide_eq_false e.symm
        omega
    rw [h1, h2, e3]
    simp
theorem add_inf (way : Int) {a b : Nat} (hna : nanP a = false) (hnb : nanP b = false) (h : (infP a = true ∧ (infP b = false ∨ a = b)) ∨ (infP a = false ∧ infP b = true)) : addP way a b = if infP a = true then a else b := by
  obtain ⟨x, hx, x1, x2, x3, x4, x5, x6, x7⟩ := open_all a
  obtain ⟨y, hy, y1, y2, y3, y4, y5, y6, y7⟩ := open_all b
  unfold addP
  rw [hx, hy]
  unfold addN
  rw [x1, y1, x2, y2, x3, y3, hna, hnb]
  rcases h with ⟨h1, h2 | h2⟩ | ⟨h1, h2⟩
  · rw [h1, h2]; simp
  · rw [h1, h2]; simp
  · rw [h1, h2]; simp
end Go.Proofs.Ytanccobllehnaaa
