/- Plain: the root as the code has it is the root that the document searches for. -/
import Derived.Test.YtanccobllehnaaaRefP
namespace Go.Proofs.Ytanccobllehnaaa

/-- the greatest bits whose amount's square is not above n -/
def IsRt (n m : Nat) : Prop := m < 2139095040 ∧ amt m * amt m ≤ n ∧ n < amt (m + 1) * amt (m + 1)
theorem IsRt.one {n m m' : Nat} (h : IsRt n m) (h' : IsRt n m') : m = m' := by
  obtain ⟨a1, a2, a3⟩ := h
  obtain ⟨b1, b2, b3⟩ := h'
  have key : ∀ {x y : Nat}, amt x * amt x ≤ n → n < amt (y + 1) * amt (y + 1) → ¬ y < x := fun h1 h2 hlt => by
    have h3 := amt_mono (show _ + 1 ≤ _ from hlt)
    have := Nat.mul_le_mul h3 h3
    omega
  by_cases e1 : m < m'
  · exact absurd e1 (key b2 a3)
  · by_cases e2 : m' < m
    · exact absurd e2 (key a2 b3)
    · omega
/-- rounded, from the bits below -/
def rootM (way : Int) (n m : Nat) : Nat :=
  if amt m * amt m = n ∨ way = 2 then m
  else if way = 1 then m + 1
  else if (amt m + amt (m + 1)) * (amt m + amt (m + 1)) < 4 * n ∨ ((amt m + amt (m + 1)) * (amt m + amt (m + 1)) = 4 * n ∧ m % 2 = 1) then m + 1 else m
theorem sq_lt {a b : Nat} (h : a < b) : a * a < b * b := Nat.mul_self_lt_mul_self h
theorem sq_le {a b : Nat} (h : a ≤ b) : a * a ≤ b * b := Nat.mul_self_le_mul_self h
theorem sq_eq {a b : Nat} (h : a * a = b * b) : a = b := by
  by_cases h1 : a < b
  · have := sq_lt h1; omega
  · by_cases h2 : b < a
    · have := sq_lt h2; omega
    · omega
theorem four_sq (a b : Nat) : 2 * a * b * (2 * a * b) = 4 * (a * b * (a * b)) := by
  rw [Nat.mul_assoc 2 a b, Nat.mul_mul_mul_comm]
theorem root_law {way : Int} {n r g m : Nat} (h1 : r * r ≤ n) (h2 : n < (r + 1) * (r + 1)) (hr : 33554432 ≤ r) (hr2 : r < 4294967296) (hg : g ≤ 200) (hm : IsRt (n * (two g * two g)) m) :
    roundP way false ((g : Int) - 149) r (decide (r * r ≠ n)) = rootM way (n * (two g * two g)) m := by
  have hn1 := blen_le (show 0 < r by omega)
  have hn2 := blen_lt r
  have hb1 : 25 < blen r := blen_ge (by show 33554432 ≤ r; exact hr)
  have hb2 : blen r ≤ 32 := by
    by_cases h : blen r ≤ 32
    · exact h
    · have h3 := two_le (show 32 ≤ blen r - 1 by omega)
      have h4 : two 32 = 4294967296 := rfl
      omega
  obtain ⟨d, hd⟩ : ∃ d : Nat, blen r = d + 24 := ⟨blen r - 24, by omega⟩
  have hdrop : max ((blen r : Int) - 24) (-149 - ((g : Int) - 149)) = (d : Int) := by omega
  unfold roundP
  rw [if_neg (by omega), if_neg (by omega), if_neg (by omega)]
  dsimp only
  rw [hdrop, if_neg (by omega), if_neg (by omega), show ((g : Int) - 149 + (d : Int) + 149).toNat = g + d from by omega, show ((d : Nat) : Int).toNat = d from rfl]
  have hD : two d = 2 * two (d - 1) := by rw [← two_succ]; congr 1; omega
  have hm0 : 8388608 ≤ r / two d := by
    rw [Nat.le_div_iff_mul_le (two_pos _), ← two_23, ← two_add]
    exact Nat.le_trans (two_le (by omega)) hn1
  have hm1 : r / two d < 16777216 := by
    rw [Nat.div_lt_iff_lt_mul (two_pos _), ← two_24, ← two_add]
    exact Nat.lt_of_lt_of_le hn2 (two_le (by omega))
  have hdm := Nat.div_add_mod r (two d)
  have hml := Nat.mod_lt r (two_pos d)
  have hT := two_pos g
  have hU : two (g + d) = two d * two g := by rw [two_add, Nat.mul_comm]
  have ea := amt_at (U := g + d) (m := r / two d) (.inr hm0) (by omega)
  have eb := amt_at (U := g + d) (m := r / two d + 1) (.inr (by omega)) (by omega)
  rw [← Nat.add_assoc] at eb
  rw [hU] at ea eb
  obtain ⟨D, hDD⟩ : ∃ D, two d = D := ⟨_, rfl⟩
  obtain ⟨H, hHH⟩ : ∃ H, two (d - 1) = H := ⟨_, rfl⟩
  have hH0 : 0 < H := by rw [← hHH]; exact two_pos _
  obtain ⟨T, hTT⟩ : ∃ T, two g = T := ⟨_, rfl⟩
  obtain ⟨q, hq⟩ : ∃ q, r / two d = q := ⟨_, rfl⟩
  obtain ⟨l, hl⟩ : ∃ l, r % two d = l := ⟨_, rfl⟩
  rw [hq] at hm0 hm1 ea eb
  rw [hTT] at hT ea eb hm ⊢
  rw [hDD] at ea eb
  rw [hDD, hHH] at hD
  rw [hq, hl, hDD] at hdm
  rw [hl, hDD] at hml
  rw [hq, hl, hHH]
  clear hDD hHH hTT hq hl hU hn1 hn2
  -- the bits
  obtain ⟨M, hM⟩ : ∃ M, (g + d) * 8388608 + q = M := ⟨_, rfl⟩
  have hM1 : M + 1 < 2139095040 := by omega
  rw [hM] at ea eb ⊢
  have fa : amt M = q * D * T := by rw [ea, Nat.mul_assoc]
  have fb : amt (M + 1) = (q + 1) * D * T := by rw [eb, Nat.mul_assoc]
  have ga : amt M * amt M = q * D * (q * D) * (T * T) := by rw [fa, Nat.mul_mul_mul_comm]
  have gb : amt (M + 1) * amt (M + 1) = (q + 1) * D * ((q + 1) * D) * (T * T) := by rw [fb, Nat.mul_mul_mul_comm]
  have gs : (amt M + amt (M + 1)) * (amt M + amt (M + 1)) = 4 * (((2 * q + 1) * H) * ((2 * q + 1) * H) * (T * T)) := by
    have e : amt M + amt (M + 1) = 2 * ((2 * q + 1) * H) * T := by
      rw [fa, fb, hD, ← Nat.add_mul, ← Nat.add_mul]
      congr 1
      rw [show q + (q + 1) = 2 * q + 1 from by omega, Nat.mul_left_comm]
    rw [e, four_sq, Nat.mul_mul_mul_comm]
  have hqD : q * D ≤ r := by rw [Nat.mul_comm]; omega
  have hqD1 : r + 1 ≤ (q + 1) * D := by rw [Nat.add_mul, Nat.one_mul, Nat.mul_comm]; omega
  have hTT0 : 0 < T * T := Nat.mul_pos hT hT
  have hmid : (2 * q + 1) * H = q * D + H := by rw [hD, Nat.add_mul, Nat.one_mul, Nat.mul_assoc, Nat.mul_left_comm]
  have hrq : r = q * D + l := by rw [Nat.mul_comm q D]; omega
  have hIs : IsRt (n * (T * T)) M := by
    refine ⟨by omega, ?_, ?_⟩
    · rw [ga]
      exact Nat.mul_le_mul_right _ (Nat.le_trans (sq_le hqD) h1)
    · rw [gb]
      exact Nat.mul_lt_mul_of_pos_right (Nat.lt_of_lt_of_le h2 (sq_le hqD1)) hTT0
  rw [hm.one hIs]
  have hex : amt M * amt M = n * (T * T) ↔ (l = 0 ∧ r * r = n) := by
    rw [ga]
    constructor
    · intro h
      have h3 := Nat.eq_of_mul_eq_mul_right hTT0 h
      have h4 := sq_le hqD
      have h5 : q * D * (q * D) = r * r := by omega
      have h6 := sq_eq h5
      omega
    · rintro ⟨h3, h4⟩
      rw [h3, Nat.add_zero] at hrq
      rw [← hrq, h4]
  have hab : (amt M + amt (M + 1)) * (amt M + amt (M + 1)) < 4 * (n * (T * T)) ↔ (H < l ∨ (l = H ∧ r * r ≠ n)) := by
    rw [gs, hmid]
    constructor
    · intro h
      have h3 : (q * D + H) * (q * D + H) * (T * T) < n * (T * T) := by omega
      have h4 := Nat.lt_of_mul_lt_mul_right h3
      by_cases h5 : H < l
      · exact .inl h5
      · by_cases h6 : l = H
        · right
          rw [← h6, ← hrq] at h4
          exact ⟨h6, by omega⟩
        · have := sq_le (show r + 1 ≤ q * D + H by omega)
          omega
    · intro h
      have h3 : (q * D + H) * (q * D + H) < n := by
        rcases h with h | ⟨h5, h6⟩
        · have := sq_lt (show q * D + H < r by omega)
          omega
        · rw [← h5, ← hrq]
          omega
      have := Nat.mul_lt_mul_of_pos_right h3 hTT0
      omega
  have hti : (amt M + amt (M + 1)) * (amt M + amt (M + 1)) = 4 * (n * (T * T)) ↔ (l = H ∧ r * r = n) := by
    rw [gs, hmid]
    constructor
    · intro h
      have h3 : (q * D + H) * (q * D + H) * (T * T) = n * (T * T) := by omega
      have h4 := Nat.eq_of_mul_eq_mul_right hTT0 h3
      by_cases h5 : H < l
      · have := sq_lt (show q * D + H < r by omega)
        omega
      · by_cases h6 : l = H
        · rw [← h6, ← hrq] at h4
          exact ⟨h6, h4⟩
        · have := sq_le (show r + 1 ≤ q * D + H by omega)
          omega
    · rintro ⟨h5, h6⟩
      rw [← h5, ← hrq, h6]
  have hsg : sgn false = 0 := rfl
  unfold fin
  rw [finU_lt (by split <;> omega), hsg, Nat.zero_add]
  unfold rootM
  have hu1 : way = 1 ∨ way = 2 → upB way false M (decide (l ≠ 0) || decide (r * r ≠ n)) (decide (H < l) || decide (l = H) && decide (r * r ≠ n)) (decide (l = H) && !decide (r * r ≠ n)) = ((decide (l ≠ 0) || decide (r * r ≠ n)) && outw way false) := by
    rintro (rfl | rfl) <;> rfl
  have hu0 : way ≠ 1 → way ≠ 2 → upB way false M (decide (l ≠ 0) || decide (r * r ≠ n)) (decide (H < l) || decide (l = H) && decide (r * r ≠ n)) (decide (l = H) && !decide (r * r ≠ n)) = (decide (H < l) || decide (l = H) && decide (r * r ≠ n) || decide (l = H) && !decide (r * r ≠ n) && M % 2 == 1) := by
    intro w1 w2
    unfold upB
    rw [if_neg (by simp [w1, w2])]
  generalize (amt M + amt (M + 1)) * (amt M + amt (M + 1)) = SS at *
  generalize amt M * amt M = AA at *
  generalize n * (T * T) = N at *
  by_cases w1 : way = 1
  · rw [hu1 (.inl w1)]
    subst w1
    have ho : outw 1 false = true := rfl
    rw [ho, Bool.and_true, if_pos (show (1 : Int) = 1 from rfl)]
    by_cases he : AA = N
    · obtain ⟨z1, z2⟩ := hex.1 he
      rw [if_neg (by simp [z1, z2]), if_pos (.inl he)]
    · rw [if_neg (show ¬ (AA = N ∨ (1 : Int) = 2) by simp [he]), if_pos]
      by_cases h0 : l = 0
      · have hz : ¬ r * r = n := fun h => he (hex.2 ⟨h0, h⟩)
        simp [hz]
      · simp [h0]
  · by_cases w2 : way = 2
    · rw [hu1 (.inr w2)]
      subst w2
      have ho : outw 2 false = false := rfl
      rw [ho, Bool.and_false, if_neg (by decide), if_pos (.inr rfl)]
    · rw [hu0 w1 w2, if_neg w1]
      by_cases he : AA = N
      · obtain ⟨z1, z2⟩ := hex.1 he
        have hlH : ¬ l = H := by omega
        have hHl : ¬ H < l := by omega
        rw [if_neg (by simp [hlH, hHl]), if_pos (.inl he)]
      · rw [if_neg (show ¬ (AA = N ∨ way = 2) by simp [he, w2])]
        by_cases hup : SS < 4 * N ∨ SS = 4 * N ∧ M % 2 = 1
        · rw [if_pos hup, if_pos]
          rcases hup with h | ⟨h, hp⟩
          · rcases hab.1 h with h | ⟨h, h'⟩
            · simp [h]
            · simp [h, h']
          · obtain ⟨h3, h4⟩ := hti.1 h
            simp [h3, h4, hp]
        · rw [if_neg hup, if_neg]
          intro hb
          apply hup
          simp only [Bool.or_eq_true, Bool.and_eq_true, decide_eq_true_eq, beq_iff_eq, Bool.not_eq_true', decide_eq_false_iff_not, Decidable.not_not] at hb
          rcases hb with (h | h) | h
          · exact .inl (hab.2 (.inl h))
          · exact .inl (hab.2 (.inr h))
          · exact .inr ⟨hti.2 h.1, h.2⟩
end Go.Proofs.Ytanccobllehnaaa
