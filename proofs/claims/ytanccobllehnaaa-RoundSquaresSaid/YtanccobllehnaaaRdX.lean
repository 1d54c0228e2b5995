/- Plain: roots and squares. -/
import Derived.Test.YtanccobllehnaaaRdY
namespace Go.Proofs.Ytanccobllehnaaa

theorem isRt_ex {N : Nat} (h : N < amt 2139095040 * amt 2139095040) : ∃ m, IsRt N m := by
  have key : ∀ k, k ≤ 2139095040 → N < amt k * amt k → ∃ m, IsRt N m := by
    intro k
    induction k with
    | zero => intro _ hh; rw [amt_zero] at hh; omega
    | succ k ih =>
      intro hk hh
      by_cases hc : amt k * amt k ≤ N
      · exact ⟨k, by omega, hc, hh⟩
      · exact ih (by omega) (by omega)
  exact key _ (Nat.le_refl _) h
theorem sqrt_at_root {way : Int} {a m : Nat} (h0 : 0 < a) (h1 : a < 2139095040) (hm : IsRt (two 149 * amt a) m) : sqrtP way a = rootM way (two 149 * amt a) m := by
  have hab : absP a = a := by unfold absP; omega
  have hna : nanP a = false := by unfold nanP; rw [decide_eq_false]; omega
  have hia : infP a = false := by unfold infP; rw [decide_eq_false]; omega
  unfold sqrtP
  rw [if_neg (by rw [hna]; decide), if_neg (by rw [hab]; omega), if_neg (by omega), if_neg (by rw [hia]; decide)]
  have := sqrt_law (way := way) (a := a) (m := m) (by rw [hab]; omega) (by rw [hab]; exact h1) (by rw [hab]; exact hm)
  rw [hab] at this
  exact this
theorem mul_self_fin (way : Int) {m : Nat} (h : m < 2139095040) : mulP way m m = rnd way false (amt m * amt m) (two 149) := by
  have hab : absP m = m := by unfold absP; omega
  have hna : nanP m = false := by unfold nanP; rw [decide_eq_false]; omega
  have hia : infP m = false := by unfold infP; rw [decide_eq_false]; omega
  have hs : sgnX m m = false := by unfold sgnX; cases decide (2147483648 ≤ m) <;> rfl
  rw [mul_fin way hna hna hia hia, hab, hs]
theorem place_low {a : Nat} (h : a < 2147483648) : placeP a = (a : Int) := by
  unfold placeP
  rw [if_neg (by omega)]
  omega
/-- roots of squares of whole numbers -/
theorem sq_int {n : Int} (h : 0 ≤ n ∧ n ≤ 4096) : sqrtP 0 (mulP 0 (fromP 0 n) (fromP 0 n)) = fromP 0 n ∧ fromP 0 n < 4294967296 := by
  obtain ⟨m, hm⟩ : ∃ m : Nat, n = (m : Int) := ⟨n.natAbs, by omega⟩
  subst hm
  have hm : m ≤ 4096 := by omega
  have hf : fromP 0 (m : Int) = if m = 0 then 0 else bitsI m := by
    unfold fromP
    rw [decide_eq_false (by omega), Int.natAbs_natCast, from_law (by omega), rnd_int (by omega)]
    show (if m = 0 then 0 else 0 + bitsI m) = _
    rw [Nat.zero_add]
  by_cases h0 : m = 0
  · rw [if_pos h0] at hf
    rw [hf]
    exact ⟨by kernel_rfl, by decide⟩
  rw [if_neg h0] at hf
  rw [hf]
  obtain ⟨k1, k2⟩ := bitsI_is (n := m) (by omega)
  have hsq : m * m ≤ 16777216 := by
    have := Nat.mul_le_mul hm hm
    omega
  have hsq0 : 0 < m * m := Nat.mul_pos (by omega) (by omega)
  obtain ⟨q1, q2⟩ := bitsI_is hsq
  have hT := two_pos 149
  have hmul : mulP 0 (bitsI m) (bitsI m) = bitsI (m * m) := by
    rw [mul_self_fin 0 k1, k2, show two 149 * m * (two 149 * m) = two 149 * (m * m) * two 149 from by rw [Nat.mul_mul_mul_comm, Nat.mul_right_comm]]
    have := rnd_scale (way := 0) (neg := false) (p := two 149 * (m * m)) (q := 1) hT
    rw [Nat.one_mul] at this
    rw [this, rnd_int hsq]
    show 0 + _ = _
    rw [Nat.zero_add]
  have hN : two 149 * amt (bitsI (m * m)) = amt (bitsI m) * amt (bitsI m) := by
    rw [q2, k2, Nat.mul_mul_mul_comm, Nat.mul_assoc]
  have hp0 : 0 < bitsI (m * m) := by
    rcases Nat.eq_zero_or_pos (bitsI (m * m)) with e | e
    · rw [e, amt_zero] at q2
      have := Nat.mul_pos hT hsq0
      omega
    · exact e
  have hrt : IsRt (two 149 * amt (bitsI (m * m))) (bitsI m) := ⟨k1, by rw [hN]; exact Nat.le_refl _, by rw [hN]; exact sq_lt (amt_lt _)⟩
  rw [hmul]
  clear hmul hf
  generalize bitsI (m * m) = pp at *
  generalize bitsI m = kk at *
  rw [sqrt_at_root hp0 q1 hrt]
  unfold rootM
  rw [if_pos (.inl hN.symm)]
  exact ⟨rfl, by omega⟩
/-- roots and squares of one above 0 -/
theorem sq_stand {a : Nat} (ha : a < 4294967296) (hl : lessP 0 a = true) (hi : infP a = false) :
    sqrtP 2 a < 4294967296 ∧ sqrtP 1 a < 4294967296 ∧ lessP a (mulP 2 (sqrtP 2 a) (sqrtP 2 a)) = false ∧ lessP (mulP 1 (sqrtP 1 a) (sqrtP 1 a)) a = false ∧ lessP (sqrtP 1 a) (sqrtP 2 a) = false := by
  unfold lessP at hl
  rw [Bool.and_eq_true, Bool.and_eq_true] at hl
  have hna : nanP a = false := by
    have := hl.1.2
    cases h : nanP a
    · rfl
    · rw [h] at this; cases this
  have hpl : placeP 0 < placeP a := of_decide_eq_true hl.2
  have hp0 : placeP 0 = 0 := rfl
  rw [hp0] at hpl
  have la := fin_abs hna hi
  have ha31 : a < 2147483648 := by
    unfold placeP at hpl
    by_cases h : 2147483648 ≤ a
    · rw [if_pos h] at hpl; omega
    · omega
  have hab : absP a = a := by unfold absP; omega
  rw [hab] at la
  rw [place_low ha31] at hpl
  have ha0 : 0 < a := by omega
  have htop := root_top la
  obtain ⟨m, hm⟩ := isRt_ex htop
  obtain ⟨r1, r2, r3⟩ := hm
  have hT := two_pos 149
  have e2 : sqrtP 2 a = m := by
    rw [sqrt_at_root ha0 la ⟨r1, r2, r3⟩]
    unfold rootM
    rw [if_pos (.inr rfl)]
  have hm1 : m + 1 < 2139095040 := by
    rcases Nat.lt_or_ge (m + 1) 2139095040 with h | h
    · exact h
    · exfalso
      have h1 := amt_mono (show 2130706432 ≤ m by omega)
      have e := amt_at (U := 253) (m := 8388608) (.inr (by omega)) (by omega)
      rw [show 253 * 8388608 + 8388608 = 2130706432 from rfl, show 8388608 * two 253 = two 276 from by rw [← two_23, ← two_add]] at e
      rw [e] at h1
      have h2 := Nat.mul_le_mul h1 h1
      rw [← two_add] at h2
      have h3 := amt_le (m := a) (by omega)
      have h4 : two 149 * amt a ≤ two 149 * two 277 := Nat.mul_le_mul_left _ h3
      rw [← two_add] at h4
      have h5 := two_le (show 149 + 277 + 1 ≤ 276 + 276 by omega)
      rw [two_succ] at h5
      have h6 := two_pos (149 + 277)
      omega
  obtain ⟨hh, he1, hh1, hh2, hh3⟩ : ∃ hh, sqrtP 1 a = hh ∧ hh < 2139095040 ∧ two 149 * amt a ≤ amt hh * amt hh ∧ m ≤ hh := by
    rw [sqrt_at_root ha0 la ⟨r1, r2, r3⟩]
    unfold rootM
    by_cases hx : amt m * amt m = two 149 * amt a
    · exact ⟨m, by rw [if_pos (.inl hx)], r1, by omega, Nat.le_refl _⟩
    · exact ⟨m + 1, by rw [if_neg (by simp [hx]), if_pos rfl], hm1, by omega, by omega⟩
  rw [e2, he1]
  have hself : rnd 2 false (two 149 * amt a) (two 149) = a ∧ rnd 1 false (two 149 * amt a) (two 149) = a := by
    constructor
    · rw [rnd_exact la hT (Nat.mul_comm _ _)]; show 0 + a = a; omega
    · rw [rnd_exact la hT (Nat.mul_comm _ _)]; show 0 + a = a; omega
  obtain ⟨u, u1, u2, u3⟩ := place_rnd 2 false (amt m * amt m) (two 149)
  obtain ⟨v, v1, v2, v3⟩ := place_rnd 1 false (amt hh * amt hh) (two 149)
  have o1 := rnd_mono (way := 2) (neg := false) (q := two 149) r2
  have o2 := rnd_mono (way := 1) (neg := false) (q := two 149) hh2
  rw [hself.1] at o1
  rw [hself.2] at o2
  simp only [Bool.false_eq_true, if_false] at u3 v3
  have sf : sgn false = 0 := rfl
  refine ⟨by omega, by omega, ?_, ?_, ?_⟩
  · unfold lessP
    rw [mul_self_fin 2 r1, u3, place_low ha31, decide_eq_false (by omega), Bool.and_false]
  · unfold lessP
    rw [mul_self_fin 1 hh1, v3, place_low ha31, decide_eq_false (by omega), Bool.and_false]
  · unfold lessP
    rw [place_low (by omega : hh < 2147483648), place_low (by omega : m < 2147483648), decide_eq_false (by omega), Bool.and_false]
end Go.Proofs.Ytanccobllehnaaa
