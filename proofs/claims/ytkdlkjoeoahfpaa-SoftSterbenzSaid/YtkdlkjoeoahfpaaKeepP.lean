/- Plain: rounding keeps order; sums with a third one keep it. -/
import Derived.Test.YtkdlkjoeoahfpaaAddP
namespace Go.Proofs.Ytkdlkjoeoahfpaa

/-- the bits of the rounded one, without the sign -/
def rb (way : Int) (neg : Bool) (p : Nat) : Nat := rnd way neg p 1 - sgn neg
theorem rnd_form (way : Int) (neg : Bool) (p q : Nat) : ∃ k, rnd way neg p q = sgn neg + k ∧ k ≤ 2139095040 ∧ (cut p q ≤ k ∨ (cut p q = 2139095040 ∧ k = 2139095039 ∧ inw way neg = true)) ∧ (k ≤ cut p q + 1) ∧ (inw way neg = true → k ≤ cut p q) := by
  obtain ⟨h1, h2, h3⟩ := cut_is p q
  unfold rnd rndM
  generalize cut p q = m at *
  by_cases hm : m = 2139095040
  · rw [if_pos hm]
    unfold hugeP
    by_cases hi : inw way neg = true
    · rw [if_pos hi]
      exact ⟨_, rfl, by omega, .inr ⟨hm, rfl, hi⟩, by omega, fun _ => by omega⟩
    · rw [if_neg hi]
      exact ⟨_, rfl, by omega, .inl (by omega), by omega, fun h => absurd h hi⟩
  · rw [if_neg hm]
    split
    · exact ⟨m, rfl, by omega, .inl (Nat.le_refl _), by omega, fun _ => Nat.le_refl _⟩
    · rename_i hi
      have hi' : ¬ inw way neg = true := fun h => hi (.inr h)
      split
      · exact ⟨m + 1, rfl, by omega, .inl (by omega), by omega, fun h => absurd h hi'⟩
      · split
        · exact ⟨m + 1, rfl, by omega, .inl (by omega), by omega, fun h => absurd h hi'⟩
        · exact ⟨m, rfl, by omega, .inl (Nat.le_refl _), by omega, fun _ => Nat.le_refl _⟩
theorem cut_mono {p p' q : Nat} (h : p ≤ p') : cut p q ≤ cut p' q := by
  obtain ⟨h1, h2, h3⟩ := cut_is p q
  obtain ⟨k1, k2, k3⟩ := cut_is p' q
  by_cases hc : cut p q ≤ cut p' q
  · exact hc
  · have := k3 (by omega)
    have h4 := Nat.mul_le_mul_right q (amt_mono (show cut p' q + 1 ≤ cut p q by omega))
    omega
theorem rnd_mono {way : Int} {neg : Bool} {p p' q : Nat} (h : p ≤ p') : rnd way neg p q ≤ rnd way neg p' q := by
  have hm := cut_mono (q := q) h
  by_cases he : cut p q = cut p' q
  · obtain ⟨h1, h2, h3⟩ := cut_is p q
    unfold rnd
    rw [← he]
    obtain ⟨m, hmm⟩ : ∃ m, cut p q = m := ⟨_, rfl⟩
    rw [hmm] at h1 h2 h3 ⊢
    unfold rndM
    by_cases hI : m = 2139095040
    · rw [if_pos hI, if_pos hI]; exact Nat.le_refl _
    · rw [if_neg hI, if_neg hI]
      have hlow : sgn neg + m ≤ (if amt m * q = p' ∨ inw way neg = true then sgn neg + m else if outw way neg = true then sgn neg + (m + 1) else if (amt m + amt (m + 1)) * q < 2 * p' ∨ (amt m + amt (m + 1)) * q = 2 * p' ∧ m % 2 = 1 then sgn neg + (m + 1) else sgn neg + m) := by
        split
        · omega
        · split
          · omega
          · split <;> omega
      by_cases e1 : amt m * q = p ∨ inw way neg = true
      · rw [if_pos e1]; exact hlow
      · rw [if_neg e1]
        by_cases hpp : p = p'
        · subst hpp; rw [if_neg e1]; exact Nat.le_refl _
        · have e2 : ¬ (amt m * q = p' ∨ inw way neg = true) := by
            rintro (e | e)
            · omega
            · exact e1 (.inr e)
          rw [if_neg e2]
          by_cases ho : outw way neg = true
          · rw [if_pos ho, if_pos ho]; exact Nat.le_refl _
          · rw [if_neg ho, if_neg ho]
            by_cases hu : (amt m + amt (m + 1)) * q < 2 * p ∨ (amt m + amt (m + 1)) * q = 2 * p ∧ m % 2 = 1
            · rw [if_pos hu, if_pos (.inl (by omega))]; exact Nat.le_refl _
            · rw [if_neg hu]
              split <;> omega
  · obtain ⟨k, e1, e2, e3, e4, e5⟩ := rnd_form way neg p q
    obtain ⟨l, f1, f2, f3, f4, f5⟩ := rnd_form way neg p' q
    rw [e1, f1]
    rcases f3 with f3 | ⟨f3, f6, f7⟩
    · omega
    · have := e5 f7
      omega
/-- where the rounded one stands -/
theorem place_rnd (way : Int) (neg : Bool) (p q : Nat) : ∃ k : Nat, rnd way neg p q = sgn neg + k ∧ k ≤ 2139095040 ∧ placeP (rnd way neg p q) = (if neg then -(k : Int) else (k : Int)) := by
  obtain ⟨k, e1, e2, -⟩ := rnd_form way neg p q
  refine ⟨k, e1, e2, ?_⟩
  rw [e1]
  unfold placeP sgn
  cases neg
  · simp only [Bool.false_eq_true, if_false, Nat.zero_add]
    rw [if_neg (by omega), Nat.mod_eq_of_lt (by omega)]
  · simp only [if_true]
    rw [if_pos (by omega), show (2147483648 + k) % 2147483648 = k from by omega]
/-- what a float is worth, times 2^149 -/
def val (a : Nat) : Int := if 2147483648 ≤ a then -((amt (absP a) : Nat) : Int) else ((amt (absP a) : Nat) : Int)
theorem val_mono {a b : Nat} (h : placeP a ≤ placeP b) : val a ≤ val b := by
  unfold placeP at h
  unfold val absP
  split at h
  · rename_i h1
    rw [if_pos h1]
    split at h
    · rename_i h2
      rw [if_pos h2]
      have := amt_mono (show b % 2147483648 ≤ a % 2147483648 by omega)
      omega
    · rename_i h2
      rw [if_neg h2]; omega
  · rename_i h1
    rw [if_neg h1]
    split at h
    · rename_i h2
      rw [if_pos h2]
      have e1 : a % 2147483648 = 0 := by omega
      have e2 : b % 2147483648 = 0 := by omega
      rw [e1, e2, amt_zero]; omega
    · rename_i h2
      rw [if_neg h2]
      have := amt_mono (show a % 2147483648 ≤ b % 2147483648 by omega)
      omega
/-- an exact whole number of 2^-149, rounded: where it stands -/
def rsum (way : Int) (s : Int) : Int := if s < 0 then placeP (rnd way true s.natAbs 1) else if s = 0 then 0 else placeP (rnd way false s.natAbs 1)
theorem rsum_mono {way s t : Int} (h : s ≤ t) : rsum way s ≤ rsum way t := by
  unfold rsum
  obtain ⟨k, e1, e2, e3⟩ := place_rnd way true s.natAbs 1
  obtain ⟨k', f1, f2, f3⟩ := place_rnd way false s.natAbs 1
  obtain ⟨l, g1, g2, g3⟩ := place_rnd way true t.natAbs 1
  obtain ⟨l', i1, i2, i3⟩ := place_rnd way false t.natAbs 1
  rw [e3, f3, g3, i3]
  simp only [if_true, Bool.false_eq_true, if_false]
  by_cases hs : s < 0
  · rw [if_pos hs]
    by_cases ht : t < 0
    · rw [if_pos ht]
      have := rnd_mono (way := way) (neg := true) (q := 1) (show t.natAbs ≤ s.natAbs by omega)
      rw [e1, g1] at this
      omega
    · rw [if_neg ht]
      split <;> omega
  · rw [if_neg hs, if_neg (show ¬ t < 0 by omega)]
    by_cases h0 : s = 0
    · rw [if_pos h0]
      split <;> omega
    · rw [if_neg h0, if_neg (show ¬ t = 0 by omega)]
      have := rnd_mono (way := way) (neg := false) (q := 1) (show s.natAbs ≤ t.natAbs by omega)
      rw [f1, i1] at this
      omega
theorem place_sgn (neg : Bool) : placeP (sgn neg) = 0 := by cases neg <;> rfl
/-- where the sum of two finite ones stands -/
theorem place_add (way : Int) {a b : Nat} (hna : nanP a = false) (hia : infP a = false) (hnb : nanP b = false) (hib : infP b = false) :
    placeP (addP way a b) = rsum way (val a + val b) := by
  rw [add_law way hna hia hnb hib]
  by_cases hz : absP a = 0 ∧ absP b = 0
  · rw [if_pos hz]
    have e : val a + val b = 0 := by
      unfold val
      rw [hz.1, hz.2, amt_zero]
      split <;> split <;> rfl
    have e0 : rsum way 0 = 0 := by
      unfold rsum
      rw [if_neg (by omega), if_pos rfl]
    rw [e, e0]
    split
    · have h1 := hz.1
      have h2 := hz.2
      unfold absP at h1 h2
      unfold placeP
      split
      · rw [h1]; rfl
      · rw [h1]; rfl
    · exact place_sgn _
  · rw [if_neg hz]
    have hp : absP a ≠ 0 → 0 < amt (absP a) := fun h => by
      have := amt_smono (show 0 < absP a by omega)
      omega
    have hq : absP b ≠ 0 → 0 < amt (absP b) := fun h => by
      have := amt_smono (show 0 < absP b by omega)
      omega
    have hpq : 0 < amt (absP a) + amt (absP b) := by
      by_cases h : absP a = 0
      · have := hq (fun e => hz ⟨h, e⟩); omega
      · have := hp h; omega
    unfold sumL val rsum
    generalize amt (absP a) = p at *
    generalize amt (absP b) = q at *
    by_cases ha' : 2147483648 ≤ a <;> by_cases hb' : 2147483648 ≤ b
    · rw [decide_eq_true ha', decide_eq_true hb', if_pos rfl, if_pos ha', if_pos hb', if_pos (by omega), show (-(p : Int) + -(q : Int)).natAbs = p + q from by omega]
    · rw [decide_eq_true ha', decide_eq_false hb', if_neg (by decide), if_pos ha', if_neg hb']
      by_cases e : p = q
      · rw [if_pos e, if_neg (by omega), if_pos (by omega)]; exact place_sgn _
      · rw [if_neg e]
        by_cases l : q < p
        · rw [if_pos l, if_pos (by omega), show (-(p : Int) + (q : Int)).natAbs = p - q from by omega]
        · rw [if_neg l, if_neg (by omega), if_neg (by omega), show (-(p : Int) + (q : Int)).natAbs = q - p from by omega]
    · rw [decide_eq_false ha', decide_eq_true hb', if_neg (by decide), if_neg ha', if_pos hb']
      by_cases e : p = q
      · rw [if_pos e, if_neg (by omega), if_pos (by omega)]; exact place_sgn _
      · rw [if_neg e]
        by_cases l : q < p
        · rw [if_pos l, if_neg (by omega), if_neg (by omega), show ((p : Int) + -(q : Int)).natAbs = p - q from by omega]
        · rw [if_neg l, if_pos (by omega), show ((p : Int) + -(q : Int)).natAbs = q - p from by omega]
    · rw [decide_eq_false ha', decide_eq_false hb', if_pos rfl, if_neg ha', if_neg hb', if_neg (by omega), if_neg (by omega), show ((p : Int) + (q : Int)).natAbs = p + q from by omega]
end Go.Proofs.Ytkdlkjoeoahfpaa
