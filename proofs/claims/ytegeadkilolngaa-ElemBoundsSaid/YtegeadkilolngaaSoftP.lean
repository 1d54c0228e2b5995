/- Plain: floats as bits, their amounts, the float to which a quotient is rounded, and that Round's steps find it. -/
import Derived.Test.YtegeadkilolngaaRows
namespace Go.Proofs.Ytegeadkilolngaa

def two (n : Nat) : Nat := 2 ^ n
theorem two_pos (n : Nat) : 0 < two n := Nat.two_pow_pos n
theorem two_add (a b : Nat) : two (a + b) = two a * two b := Nat.pow_add 2 a b
theorem two_succ (a : Nat) : two (a + 1) = 2 * two a := by unfold two; rw [Nat.pow_succ, Nat.mul_comm]
theorem two_le {a b : Nat} (h : a ≤ b) : two a ≤ two b := Nat.pow_le_pow_right (by omega) h
theorem two_23 : two 23 = 8388608 := rfl
theorem two_24 : two 24 = 16777216 := rfl

/-- how many times 2^-149 bits without a sign are -/
def amt (m : Nat) : Nat := if m / 8388608 = 0 then m else (8388608 + m % 8388608) * two (m / 8388608 - 1)
theorem amt_zero : amt 0 = 0 := rfl
theorem amt_lt (m : Nat) : amt m < amt (m + 1) := by
  by_cases h : m % 8388608 + 1 < 8388608
  · have h1 : (m + 1) / 8388608 = m / 8388608 := by omega
    have h2 : (m + 1) % 8388608 = m % 8388608 + 1 := by omega
    unfold amt
    rw [h1, h2]
    split
    · omega
    · exact Nat.mul_lt_mul_of_pos_right (by omega) (two_pos _)
  · have h1 : (m + 1) / 8388608 = m / 8388608 + 1 := by omega
    have h2 : (m + 1) % 8388608 = 0 := by omega
    unfold amt
    rw [h1, h2, if_neg (by omega : ¬ (m / 8388608 + 1 = 0))]
    split
    · have := two_pos (m / 8388608 + 1 - 1)
      rename_i h0
      rw [h0]
      show m < (8388608 + 0) * 1
      omega
    · rename_i h0
      have e : m / 8388608 + 1 - 1 = (m / 8388608 - 1) + 1 := by omega
      rw [e, two_succ]
      have := two_pos (m / 8388608 - 1)
      have h3 : (8388608 + m % 8388608) * two (m / 8388608 - 1) < 16777216 * two (m / 8388608 - 1) := Nat.mul_lt_mul_of_pos_right (by omega) this
      have h4 : (8388608 + 0) * (2 * two (m / 8388608 - 1)) = 16777216 * two (m / 8388608 - 1) := by rw [← Nat.mul_assoc]
      omega
theorem amt_mono {a b : Nat} (h : a ≤ b) : amt a ≤ amt b := by
  induction b with
  | zero => have : a = 0 := by omega
            subst this; exact Nat.le_refl _
  | succ b ih =>
    by_cases e : a = b + 1
    · subst e; exact Nat.le_refl _
    · exact Nat.le_trans (ih (by omega)) (Nat.le_of_lt (amt_lt b))
theorem amt_smono {a b : Nat} (h : a < b) : amt a < amt b := Nat.lt_of_lt_of_le (amt_lt a) (amt_mono h)
theorem amt_at {U m : Nat} (h : U = 0 ∨ 8388608 ≤ m) (hm : m ≤ 16777216) : amt (U * 8388608 + m) = m * two U := by
  by_cases h0 : m < 8388608
  · have hU : U = 0 := by omega
    subst hU
    unfold amt
    rw [if_pos (by omega)]
    show _ = m * 1
    omega
  · by_cases h1 : m = 16777216
    · subst h1
      unfold amt
      have e1 : (U * 8388608 + 16777216) / 8388608 = U + 2 := by omega
      have e2 : (U * 8388608 + 16777216) % 8388608 = 0 := by omega
      rw [e1, e2, if_neg (by omega), show U + 2 - 1 = U + 1 from rfl, two_succ, ← Nat.mul_assoc]
    · unfold amt
      have e1 : (U * 8388608 + m) / 8388608 = U + 1 := by omega
      have e2 : (U * 8388608 + m) % 8388608 = m - 8388608 := by omega
      rw [e1, e2, if_neg (by omega), show U + 1 - 1 = U from rfl, show 8388608 + (m - 8388608) = m from by omega]
theorem amt_inf : amt 2139095040 = 8388608 * two 254 := by
  have := amt_at (U := 254) (m := 8388608) (.inr (Nat.le_refl _)) (by omega)
  simpa using this

/-- the greatest bits, to those of the infinite one, whose amount times q is at most p -/
def cutN (p q : Nat) : Nat → Nat
  | 0 => 0
  | k + 1 => if amt (k + 1) * q ≤ p then k + 1 else cutN p q k
def IsCut (p q m : Nat) : Prop := m ≤ 2139095040 ∧ amt m * q ≤ p ∧ (m < 2139095040 → p < amt (m + 1) * q)
theorem cutN_is (p q : Nat) : ∀ k, cutN p q k ≤ k ∧ amt (cutN p q k) * q ≤ p ∧ (cutN p q k < k → p < amt (cutN p q k + 1) * q)
  | 0 => ⟨Nat.le_refl _, by simp [cutN, amt_zero], fun h => absurd h (Nat.not_lt_zero _)⟩
  | k + 1 => by
    unfold cutN
    split
    · rename_i h; exact ⟨Nat.le_refl _, h, fun h => absurd h (Nat.lt_irrefl _)⟩
    · rename_i h
      obtain ⟨h1, h2, h3⟩ := cutN_is p q k
      refine ⟨by omega, h2, fun _ => ?_⟩
      by_cases e : cutN p q k < k
      · exact h3 e
      · rw [show cutN p q k = k from by omega]; omega
def cut (p q : Nat) : Nat := cutN p q 2139095040
theorem cut_is (p q : Nat) : IsCut p q (cut p q) := cutN_is p q _
theorem IsCut.one {p q m m' : Nat} (h : IsCut p q m) (h' : IsCut p q m') : m = m' := by
  obtain ⟨a1, a2, a3⟩ := h
  obtain ⟨b1, b2, b3⟩ := h'
  have key : ∀ {x y : Nat}, amt x * q ≤ p → p < amt (y + 1) * q → ¬ y < x := fun h1 h2 hlt => by
    have := Nat.mul_le_mul_right q (amt_mono (show _ + 1 ≤ _ from hlt))
    omega
  by_cases e1 : m < m'
  · exact absurd e1 (key b2 (a3 (by omega)))
  · by_cases e2 : m' < m
    · exact absurd e2 (key a2 (b3 (by omega)))
    · omega
theorem IsCut.eq {p q m : Nat} (h : IsCut p q m) : cut p q = m := (cut_is p q).one h

def sgn (neg : Bool) : Nat := if neg then 2147483648 else 0
def outw (way : Int) (neg : Bool) : Bool := (way == 1 && !neg) || (way == 2 && neg)
def inw (way : Int) (neg : Bool) : Bool := (way == 1 && neg) || (way == 2 && !neg)
def hugeP (way : Int) (neg : Bool) : Nat := sgn neg + (if inw way neg then 2139095039 else 2139095040)
def tinyP (way : Int) (neg : Bool) : Nat := sgn neg + (if outw way neg then 1 else 0)
/-- rounded, from the bits below -/
def rndM (way : Int) (neg : Bool) (p q m : Nat) : Nat :=
  if m = 2139095040 then hugeP way neg
  else if amt m * q = p ∨ inw way neg = true then sgn neg + m
  else if outw way neg = true then sgn neg + (m + 1)
  else if (amt m + amt (m + 1)) * q < 2 * p ∨ ((amt m + amt (m + 1)) * q = 2 * p ∧ m % 2 = 1) then sgn neg + (m + 1) else sgn neg + m
/-- p / q times 2^-149, rounded -/
def rnd (way : Int) (neg : Bool) (p q : Nat) : Nat := rndM way neg p q (cut p q)
theorem rnd_zero (way : Int) (neg : Bool) {q : Nat} (hq : 0 < q) : rnd way neg 0 q = sgn neg := by
  have h : IsCut 0 q 0 := ⟨by omega, by simp [amt_zero], fun _ => Nat.mul_pos (by decide) hq⟩
  unfold rnd
  rw [h.eq]
  unfold rndM
  rw [if_neg (by decide), if_pos (.inl (by simp [amt_zero]))]
  rfl
theorem rnd_tiny (way : Int) (neg : Bool) {p q : Nat} (hp : 0 < p) (h : 2 * p < q) : rnd way neg p q = tinyP way neg := by
  have h1 : amt (0 + 1) = 1 := rfl
  have hc : IsCut p q 0 := ⟨by omega, by simp [amt_zero], fun _ => by rw [h1]; omega⟩
  unfold rnd
  rw [hc.eq]
  unfold rndM tinyP
  rw [if_neg (by decide), amt_zero, h1]
  by_cases ho : outw way neg = true
  · have hi : inw way neg = false := by
      revert ho; unfold inw outw
      cases neg <;> simp <;> omega
    rw [if_neg (by simp [hi]; omega), if_pos ho, if_pos ho]
  · rw [if_neg ho]
    split
    · rfl
    · rw [if_neg (by omega)]
theorem rnd_huge (way : Int) (neg : Bool) {p q : Nat} (h : amt 2139095040 * q ≤ p) : rnd way neg p q = hugeP way neg := by
  have hc : IsCut p q 2139095040 := ⟨Nat.le_refl _, h, fun h => absurd h (Nat.lt_irrefl _)⟩
  unfold rnd
  rw [hc.eq]
  unfold rndM
  rw [if_pos rfl]
/-- what Round makes of the bits below, and of how what is above them stands -/
def upB (way : Int) (neg : Bool) (m : Nat) (rest above tie : Bool) : Bool := if way == 1 || way == 2 then rest && outw way neg else above || (tie && m % 2 == 1)
def finU (way : Int) (neg : Bool) (o : Nat) : Nat := if 2139095040 ≤ o then hugeP way neg else sgn neg + o
def fin (way : Int) (neg : Bool) (m : Nat) (rest above tie : Bool) : Nat := finU way neg (if upB way neg m rest above tie = true then m + 1 else m)
theorem finU_lt {way : Int} {neg : Bool} {o : Nat} (h : o < 2139095040) : finU way neg o = sgn neg + o := by unfold finU; rw [if_neg (by omega)]
theorem finU_up {way : Int} {neg : Bool} {m : Nat} (h : m < 2139095040) (hi : ¬ inw way neg = true) : finU way neg (m + 1) = sgn neg + (m + 1) := by
  unfold finU hugeP
  split
  · omega
  · rfl
theorem finU_huge {way : Int} {neg : Bool} {o : Nat} (h : 2139095040 ≤ o) : finU way neg o = hugeP way neg := by unfold finU; rw [if_pos h]
theorem inw_way {way : Int} {neg : Bool} (h : inw way neg = true) : (way == 1 || way == 2) = true ∧ outw way neg = false := by
  revert h; unfold inw outw
  cases neg <;> simp <;> omega
theorem outw_way {way : Int} {neg : Bool} (h : outw way neg = true) : (way == 1 || way == 2) = true ∧ ¬ inw way neg = true := by
  revert h; unfold inw outw
  cases neg <;> simp <;> omega
theorem near_way {way : Int} {neg : Bool} (h : ¬ inw way neg = true) (h' : ¬ outw way neg = true) : ¬ (way == 1 || way == 2) = true := by
  revert h h'; unfold inw outw
  cases neg <;> simp <;> omega
theorem rnd_fin (way : Int) (neg : Bool) {p q m : Nat} (hq : 0 < q) (h1 : amt m * q ≤ p) (h2 : p < amt (m + 1) * q) {rest above tie : Bool}
    (hr : rest = true ↔ amt m * q ≠ p) (ha : above = true ↔ (amt m + amt (m + 1)) * q < 2 * p) (ht : tie = true ↔ (amt m + amt (m + 1)) * q = 2 * p) :
    rnd way neg p q = fin way neg m rest above tie := by
  unfold fin
  by_cases hm : 2139095040 ≤ m
  · rw [rnd_huge way neg (Nat.le_trans (Nat.mul_le_mul_right q (amt_mono hm)) h1), finU_huge]
    split <;> omega
  · have hc : IsCut p q m := ⟨by omega, h1, fun _ => h2⟩
    have hlt := Nat.mul_lt_mul_of_pos_right (amt_lt m) hq
    have hadd := Nat.add_mul (amt m) (amt (m + 1)) q
    unfold rnd
    rw [hc.eq]
    unfold rndM
    rw [if_neg (by omega)]
    by_cases hi : inw way neg = true
    · obtain ⟨hw, ho⟩ := inw_way hi
      have hu : upB way neg m rest above tie = false := by unfold upB; rw [if_pos hw, ho, Bool.and_false]
      rw [if_pos (.inr hi), hu, if_neg (by decide), finU_lt (by omega)]
    · by_cases ho : outw way neg = true
      · obtain ⟨hw, -⟩ := outw_way ho
        have hu : upB way neg m rest above tie = rest := by unfold upB; rw [if_pos hw, ho, Bool.and_true]
        rw [hu]
        by_cases he : amt m * q = p
        · have : ¬ rest = true := fun h => hr.1 h he
          rw [if_pos (.inl he), if_neg this, finU_lt (by omega)]
        · rw [if_neg (by simp [he, hi]), if_pos ho, if_pos (hr.2 he), finU_up (by omega) hi]
      · have hw := near_way hi ho
        have hu : upB way neg m rest above tie = true ↔ ((amt m + amt (m + 1)) * q < 2 * p ∨ (amt m + amt (m + 1)) * q = 2 * p ∧ m % 2 = 1) := by
          unfold upB
          rw [if_neg hw]
          simp [ha, ht]
        by_cases he : amt m * q = p
        · have : ¬ upB way neg m rest above tie = true := fun h => by
            rcases hu.1 h with h | h <;> omega
          rw [if_pos (.inl he), if_neg this, finU_lt (by omega)]
        · rw [if_neg (by simp [he, hi]), if_neg ho]
          by_cases h : upB way neg m rest above tie = true
          · rw [if_pos (hu.1 h), if_pos h, finU_up (by omega) hi]
          · rw [if_neg (fun h' => h (hu.2 h')), if_neg h, finU_lt (by omega)]
end Go.Proofs.Ytegeadkilolngaa
