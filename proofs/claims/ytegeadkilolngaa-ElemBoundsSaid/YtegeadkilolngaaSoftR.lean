/- Plain: Round's steps find the rounded quotient. -/
import Derived.Test.YtegeadkilolngaaSoftP
namespace Go.Proofs.Ytegeadkilolngaa

theorem rnd_unit {way : Int} {neg : Bool} {p q U m0 K L : Nat} (hq : 0 < q) (hK : 0 < K) (hU : U = 0 ∨ 8388608 ≤ m0) (hm0 : m0 < 16777216) (hL : L = two U * q * K)
    (h1 : m0 * L ≤ p * K) (h2 : p * K < (m0 + 1) * L) {rest above tie : Bool} (hr : rest = true ↔ m0 * L ≠ p * K) (ha : above = true ↔ (2 * m0 + 1) * L < 2 * (p * K)) (ht : tie = true ↔ (2 * m0 + 1) * L = 2 * (p * K)) :
    rnd way neg p q = fin way neg (U * 8388608 + m0) rest above tie := by
  have e0 := amt_at hU (by omega)
  have e1 : amt (U * 8388608 + (m0 + 1)) = (m0 + 1) * two U := amt_at (by omega) (by omega)
  rw [← Nat.add_assoc] at e1
  have f0 : amt (U * 8388608 + m0) * q * K = m0 * L := by rw [e0, hL, Nat.mul_assoc, Nat.mul_assoc, Nat.mul_assoc]
  have f1 : amt (U * 8388608 + m0 + 1) * q * K = (m0 + 1) * L := by rw [e1, hL, Nat.mul_assoc, Nat.mul_assoc, Nat.mul_assoc]
  have f2 : (amt (U * 8388608 + m0) + amt (U * 8388608 + m0 + 1)) * q * K = (2 * m0 + 1) * L := by
    rw [Nat.add_mul, Nat.add_mul, f0, f1, ← Nat.add_mul]; congr 1; omega
  have f3 : 2 * p * K = 2 * (p * K) := Nat.mul_assoc _ _ _
  refine rnd_fin way neg hq ?_ ?_ ?_ ?_ ?_
  · exact Nat.le_of_mul_le_mul_right (by rw [f0]; exact h1) hK
  · exact Nat.lt_of_mul_lt_mul_right (a := K) (by rw [f1]; exact h2)
  · rw [hr]
    refine not_congr ?_
    rw [← f0]
    exact ⟨fun h => Nat.eq_of_mul_eq_mul_right hK h, fun h => by rw [h]⟩
  · rw [ha, ← f2, ← f3]
    exact ⟨fun h => Nat.lt_of_mul_lt_mul_right h, fun h => Nat.mul_lt_mul_of_pos_right h hK⟩
  · rw [ht, ← f2, ← f3]
    exact ⟨fun h => Nat.eq_of_mul_eq_mul_right hK h, fun h => by rw [h]⟩

def blen (s : Nat) : Nat := if s = 0 then 0 else Nat.log2 s + 1
theorem blen_le {s : Nat} (h : 0 < s) : two (blen s - 1) ≤ s := by
  unfold blen two
  rw [if_neg (by omega)]
  exact Nat.log2_self_le (by omega)
theorem blen_lt (s : Nat) : s < two (blen s) := by
  unfold blen two
  split
  · omega
  · exact Nat.lt_log2_self
theorem blen_64 {s : Nat} (h : s < 18446744073709551616) : blen s ≤ 64 := by
  by_cases h0 : s = 0
  · simp [blen, h0]
  · have h1 := blen_le (s := s) (by omega)
    by_cases hc : blen s ≤ 64
    · exact hc
    · have := two_le (show 64 ≤ blen s - 1 by omega)
      have e : two 64 = 18446744073709551616 := rfl
      omega
theorem blen_pos {s : Nat} (h : 0 < s) : 1 ≤ blen s := by unfold blen; rw [if_neg (by omega)]; omega
theorem blen_ge {s k : Nat} (h : two k ≤ s) : k < blen s := by
  have := blen_lt s
  by_cases hc : k < blen s
  · exact hc
  · have := two_le (show blen s ≤ k by omega)
    omega

/-- Round, as its code has it -/
def roundP (way : Int) (neg : Bool) (exp : Int) (sig : Nat) (more : Bool) : Nat :=
  if sig = 0 ∧ more = false then sgn neg
  else if sig = 0 ∨ exp < -300 then tinyP way neg
  else if 200 < exp then hugeP way neg
  else
    let drop : Int := max ((blen sig : Int) - 24) (-149 - exp)
    let U : Nat := (exp + drop + 149).toNat
    if drop ≤ 0 then fin way neg (U * 8388608 + sig * two (-drop).toNat) more false false
    else if (blen sig : Int) < drop then fin way neg (U * 8388608 + 0) true false false
    else
      let left := sig % two drop.toNat
      let half := two (drop.toNat - 1)
      fin way neg (U * 8388608 + sig / two drop.toNat) (decide (left ≠ 0) || more) (decide (half < left) || (decide (left = half) && more)) (decide (left = half) && !more)

/-- sig * 2^exp, and less than one part more, is p / q times 2^-149 -/
def RV (exp : Int) (sig : Nat) (more : Bool) (p q : Nat) : Prop :=
  let A := two (exp + 149).toNat * q
  let P := p * two (-(exp + 149)).toNat
  if more then sig * A < P ∧ P < (sig + 1) * A ∧ (16777216 ≤ sig ∨ 33554432 * P < (33554432 * sig + 1) * A) else sig * A = P

theorem round_rnd {way : Int} {neg : Bool} {exp : Int} {sig : Nat} {more : Bool} {p q : Nat} (hs : 0 < sig) (hs64 : sig < 18446744073709551616) (hq : 0 < q) (hv : RV exp sig more p q) :
    roundP way neg exp sig more = rnd way neg p q := by
  unfold RV at hv
  have hn1 := blen_le hs
  have hn2 := blen_lt sig
  have hn3 := blen_64 hs64
  have hn4 := blen_pos hs
  -- what is known of the value, in one form
  have hA : 0 < two (exp + 149).toNat * q := Nat.mul_pos (two_pos _) hq
  have hP : sig * (two (exp + 149).toNat * q) ≤ p * two (-(exp + 149)).toNat := by
    cases more
    · simp at hv; omega
    · simp at hv; omega
  have hP2 : p * two (-(exp + 149)).toNat < (sig + 1) * (two (exp + 149).toNat * q) := by
    rw [Nat.add_mul]
    cases more
    · simp at hv; omega
    · simp [Nat.add_mul] at hv; omega
  have hp0 : 0 < p := by
    have := Nat.mul_pos hs hA
    have h3 : 0 < p * two (-(exp + 149)).toNat := by omega
    exact Nat.pos_of_mul_pos_right h3
  unfold roundP
  rw [if_neg (by omega)]
  by_cases h300 : exp < -300
  · rw [if_pos (.inr h300)]
    have ea : (exp + 149).toNat = 0 := by omega
    rw [ea] at hP2
    have hb : two 152 ≤ two (-(exp + 149)).toNat := two_le (by omega)
    refine (rnd_tiny way neg hp0 ?_).symm
    have h1 : p * two 152 ≤ p * two (-(exp + 149)).toNat := Nat.mul_le_mul_left p hb
    have h2 : (sig + 1) * (two 0 * q) ≤ 18446744073709551616 * q := by
      rw [show two 0 * q = q from Nat.one_mul q]
      exact Nat.mul_le_mul_right q (by omega)
    have e152 : two 152 = 18446744073709551616 * 309485009821345068724781056 := rfl
    rw [e152, ← Nat.mul_assoc] at h1
    generalize two (-(exp + 149)).toNat = b at *
    clear hv hP
    omega
  rw [if_neg (by omega)]
  by_cases h200 : 200 < exp
  · rw [if_pos h200]
    have eb : (-(exp + 149)).toNat = 0 := by omega
    rw [eb] at hP
    have ha : two 277 ≤ two (exp + 149).toNat := two_le (by omega)
    refine (rnd_huge way neg ?_).symm
    rw [amt_inf, show 8388608 * two 254 = two 277 from by rw [← two_23, ← two_add]]
    have h1 : two 277 * q ≤ two (exp + 149).toNat * q := Nat.mul_le_mul_right q ha
    have h2 : 1 * (two (exp + 149).toNat * q) ≤ sig * (two (exp + 149).toNat * q) := Nat.mul_le_mul_right _ hs
    have h3 : p * two 0 = p := Nat.mul_one p
    omega
  rw [if_neg h200]
  dsimp only
  obtain ⟨drop, hdrop⟩ : ∃ d, d = max ((blen sig : Int) - 24) (-149 - exp) := ⟨_, rfl⟩
  rw [← hdrop]
  have hd1 : (blen sig : Int) - 24 ≤ drop := by omega
  have hd2 : -149 - exp ≤ drop := by omega
  have hd3 : drop = (blen sig : Int) - 24 ∨ drop = -149 - exp := by omega
  clear hdrop
  by_cases hd0 : drop ≤ 0
  · rw [if_pos hd0]
    have eb : (-(exp + 149)).toNat = 0 := by omega
    have ea : two (exp + 149).toNat = two (-drop).toNat * two (exp + drop + 149).toNat := by
      rw [← two_add]; congr 1; omega
    have hlt : sig * two (-drop).toNat < 16777216 := by
      have h1 : sig * two (-drop).toNat < two (blen sig) * two (-drop).toNat := Nat.mul_lt_mul_of_pos_right hn2 (two_pos _)
      rw [← two_add] at h1
      have h2 := two_le (show blen sig + (-drop).toNat ≤ 24 by omega)
      rw [two_24] at h2
      omega
    have hge : (exp + drop + 149).toNat = 0 ∨ 8388608 ≤ sig * two (-drop).toNat := by
      by_cases e : drop = -149 - exp
      · left; omega
      · right
        have h1 : two (blen sig - 1) * two (-drop).toNat ≤ sig * two (-drop).toNat := Nat.mul_le_mul_right _ hn1
        rw [← two_add] at h1
        have h2 := two_le (show 23 ≤ blen sig - 1 + (-drop).toNat by omega)
        rw [two_23] at h2
        omega
    have hS : sig * two (-drop).toNat * (two (exp + drop + 149).toNat * q * 1) = sig * (two (exp + 149).toNat * q) := by
      rw [ea, Nat.mul_one, Nat.mul_assoc, Nat.mul_assoc]
    have hLpos : 0 < two (exp + drop + 149).toNat * q * 1 := by rw [Nat.mul_one]; exact Nat.mul_pos (two_pos _) hq
    have hAL : two (exp + 149).toNat * q ≤ 8388608 * (two (exp + drop + 149).toNat * q * 1) := by
      rw [ea, Nat.mul_one, Nat.mul_assoc]
      exact Nat.mul_le_mul_right _ (by rw [← two_23]; exact two_le (by omega))
    have hPK : p * two (-(exp + 149)).toNat = p * 1 := by rw [eb]; rfl
    rw [hPK] at hP hP2 hv
    rw [← hS] at hP
    refine (rnd_unit (K := 1) hq (by omega) hge hlt rfl hP ?_ ?_ ?_ ?_).symm
    all_goals
      generalize two (exp + drop + 149).toNat * q * 1 = L at *
      generalize two (exp + 149).toNat * q = A at *
      generalize p * 1 = P at *
      have e1 : (2 * (sig * two (-drop).toNat) + 1) * L = 2 * (sig * two (-drop).toNat * L) + L := by rw [Nat.add_mul, Nat.one_mul, Nat.mul_assoc]
      have e2 : (sig * two (-drop).toNat + 1) * L = sig * two (-drop).toNat * L + L := by rw [Nat.add_mul, Nat.one_mul]
      have e3 : (33554432 * sig + 1) * A = 33554432 * (sig * A) + A := by rw [Nat.add_mul, Nat.one_mul, Nat.mul_assoc]
      have e4 : more = false ∨ more = true := by cases more <;> simp
      have hsm : sig < 16777216 := by
        have := two_le (show blen sig ≤ 24 by omega)
        rw [two_24] at this
        omega
      rw [hS] at e1 e2
      first | rw [e2] | rw [e1] | skip
      try rw [hS]
      rcases e4 with rfl | rfl
      · simp at hv ⊢; omega
      · simp only [if_true, e3] at hv
        simp
        omega
  rw [if_neg hd0]
  by_cases hdn : (blen sig : Int) < drop
  · rw [if_pos hdn]
    have he : drop = -149 - exp := by omega
    have ea : (exp + 149).toNat = 0 := by omega
    have eb : (-(exp + 149)).toNat = drop.toNat := by omega
    have eu : (exp + drop + 149).toNat = 0 := by omega
    rw [ea, eb] at hP hP2
    have h1 : (sig + 1) * (two 0 * q) ≤ two (blen sig) * (two 0 * q) := Nat.mul_le_mul_right _ hn2
    have h2 : two (blen sig + 1) ≤ two drop.toNat := two_le (by omega)
    rw [two_succ] at h2
    have h3 : 2 * two (blen sig) * q ≤ two drop.toNat * q := Nat.mul_le_mul_right q h2
    have h4 : sig * (two 0 * q) > 0 := Nat.mul_pos hs (Nat.mul_pos (two_pos _) hq)
    have e0 : two 0 * q = q := Nat.one_mul q
    rw [e0] at h1 h4 hP hP2
    have h5 : q * two drop.toNat = two drop.toNat * q := Nat.mul_comm _ _
    have h6 : 2 * two (blen sig) * q = 2 * (two (blen sig) * q) := Nat.mul_assoc _ _ _
    rw [eu]
    refine (rnd_unit (K := two drop.toNat) (U := 0) (m0 := 0) (L := q * two drop.toNat) hq (two_pos _) (.inl rfl) (by omega) (by rw [show two 0 = 1 from rfl, Nat.one_mul]) (by rw [Nat.zero_mul]; exact Nat.zero_le _) ?_ ?_ ?_ ?_).symm
    all_goals
      generalize two (blen sig) * q = X at *
      generalize q * two drop.toNat = L at *
      generalize p * two drop.toNat = P at *
      generalize (sig + 1) * q = Y at *
      generalize sig * q = Z at *
      clear hv
      simp
      try omega
  rw [if_neg hdn]
  have hD : two (exp + drop + 149).toNat * q * two (-(exp + 149)).toNat = two drop.toNat * (two (exp + 149).toNat * q) := by
    have : two (exp + drop + 149).toNat * two (-(exp + 149)).toNat = two drop.toNat * two (exp + 149).toNat := by
      rw [← two_add, ← two_add]; congr 1; omega
    rw [Nat.mul_right_comm, this, Nat.mul_assoc]
  have hdd : two drop.toNat = 2 * two (drop.toNat - 1) := by rw [← two_succ]; congr 1; omega
  have hlt : sig / two drop.toNat < 16777216 := by
    rw [Nat.div_lt_iff_lt_mul (two_pos _), ← two_24, ← two_add]
    exact Nat.lt_of_lt_of_le hn2 (two_le (by omega))
  have hge : (exp + drop + 149).toNat = 0 ∨ 8388608 ≤ sig / two drop.toNat := by
    by_cases e : drop = -149 - exp
    · left; omega
    · right
      rw [Nat.le_div_iff_mul_le (two_pos _), ← two_23, ← two_add]
      exact Nat.le_trans (two_le (by omega)) hn1
  have hdm := Nat.div_add_mod sig (two drop.toNat)
  have hml := Nat.mod_lt sig (two_pos drop.toNat)
  generalize hm0 : sig / two drop.toNat = m0 at *
  generalize hlf : sig % two drop.toNat = left at *
  generalize two (drop.toNat - 1) = half at *
  generalize two drop.toNat = D at *
  generalize two (exp + 149).toNat * q = A at *
  refine (rnd_unit (K := two (-(exp + 149)).toNat) hq (two_pos _) hge hlt hD.symm ?_ ?_ ?_ ?_ ?_).symm
  all_goals
    generalize p * two (-(exp + 149)).toNat = P at *
    have es : sig * A = m0 * (D * A) + left * A := by rw [← hdm, Nat.add_mul, Nat.mul_comm D m0, Nat.mul_assoc]
    have e1 : (sig + 1) * A = sig * A + A := by rw [Nat.add_mul, Nat.one_mul]
    have e2 : (m0 + 1) * (D * A) = m0 * (D * A) + D * A := by rw [Nat.add_mul, Nat.one_mul]
    have e3 : (2 * m0 + 1) * (D * A) = 2 * (m0 * (D * A)) + D * A := by rw [Nat.add_mul, Nat.one_mul, Nat.mul_assoc]
    have e4 : D * A = 2 * (half * A) := by rw [hdd, Nat.mul_assoc]
    have l1 : (left + 1) * A ≤ D * A := Nat.mul_le_mul_right A hml
    have l1' : (left + 1) * A = left * A + A := by rw [Nat.add_mul, Nat.one_mul]
    have l2 : left ≠ 0 → A ≤ left * A := fun h => by have := Nat.mul_le_mul_right A (show 1 ≤ left by omega); omega
    have l2' : left = 0 → left * A = 0 := fun h => by rw [h, Nat.zero_mul]
    have l3 : half < left → half * A + A ≤ left * A := fun h => by have := Nat.mul_le_mul_right A (show half + 1 ≤ left from h); rw [Nat.add_mul, Nat.one_mul] at this; exact this
    have l4 : left < half → left * A + A ≤ half * A := fun h => by have := Nat.mul_le_mul_right A (show left + 1 ≤ half from h); rw [Nat.add_mul, Nat.one_mul] at this; exact this
    have l5 : left = half → left * A = half * A := fun h => by rw [h]
    have hmore : more = false ∨ more = true := by cases more <;> simp
    have hv' : (more = false ∧ sig * A = P) ∨ (more = true ∧ sig * A < P ∧ P < (sig + 1) * A) := by
      rcases hmore with rfl | rfl
      · left; simpa using hv
      · right; simp at hv; exact ⟨rfl, hv.1, hv.2.1⟩
    clear hv hP hP2 hD
    rw [e1] at hv'
    first | rw [e2] | rw [e3] | skip
    generalize m0 * (D * A) = M at *
    generalize D * A = DA at *
    generalize half * A = HA at *
    generalize (left + 1) * A = LA1 at *
    generalize left * A = LA at *
    generalize sig * A = S at *
    rcases hv' with ⟨rfl, hv'⟩ | ⟨rfl, hv'⟩
    · simp
      try omega
    · simp
      try omega
end Go.Proofs.Ytegeadkilolngaa
