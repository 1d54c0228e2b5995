/- Plain: Sterbenz: the difference of two that are not more than twice each other is a float. -/
import Derived.Test.YtkdlkjoeoahfpaaKeepQ
namespace Go.Proofs.Ytkdlkjoeoahfpaa

/-- an amount of few bits is a float's -/
theorem repr_of : ∀ (U k : Nat), k < 16777216 → ∃ m, amt m = k * two U
  | 0, k, h => ⟨k, by have := amt_at (U := 0) (m := k) (.inl rfl) (by omega); simpa using this⟩
  | U + 1, k, h => by
    by_cases hk : 8388608 ≤ k
    · have := amt_at (U := U + 1) (m := k) (.inr hk) (by omega)
      obtain ⟨z, hz⟩ : ∃ z, z = (U + 1) * 8388608 + k := ⟨_, rfl⟩
      rw [← hz] at this
      exact ⟨z, this⟩
    · obtain ⟨m, h1⟩ := repr_of U (2 * k) (by omega)
      refine ⟨m, ?_⟩
      rw [h1, two_succ, ← Nat.mul_assoc, Nat.mul_comm 2 k]
/-- a float's amount in its own steps -/
theorem amt_form (m : Nat) : ∃ U k, amt m = k * two U ∧ k < 16777216 ∧ m = U * 8388608 + k ∧ (U = 0 ∨ 8388608 ≤ k) := by
  by_cases h : m / 8388608 = 0
  · exact ⟨0, m, by have := amt_at (U := 0) (m := m) (.inl rfl) (by omega); simpa using this, by omega, by omega, .inl rfl⟩
  · refine ⟨m / 8388608 - 1, m % 8388608 + 8388608, ?_, by omega, by omega, .inr (by omega)⟩
    unfold amt
    rw [if_neg h, Nat.add_comm]
theorem amt_inj {a b : Nat} (h : amt a = amt b) : a = b := by
  by_cases e : a < b
  · have := amt_smono e; omega
  · by_cases e' : b < a
    · have := amt_smono e'; omega
    · omega
theorem amt_le_iff {a b : Nat} : amt a ≤ amt b ↔ a ≤ b := ⟨fun h => by
  by_cases e : a ≤ b
  · exact e
  · have := amt_smono (show b < a by omega); omega, amt_mono⟩
/-- the difference -/
theorem diff_repr {x y : Nat} (h1 : y ≤ x) (h2 : amt x ≤ 2 * amt y) : ∃ m, amt m = amt x - amt y := by
  obtain ⟨U, k, e1, e2, e3, e4⟩ := amt_form y
  obtain ⟨V, l, f1, f2, f3, f4⟩ := amt_form x
  have hUV : U ≤ V := by
    rcases e4 with e4 | e4
    · omega
    · by_cases hh : U ≤ V
      · exact hh
      · omega
  have ex : amt x = l * two (V - U) * two U := by
    rw [f1, Nat.mul_assoc, ← two_add, show V - U + U = V from by omega]
  have hle : k * two U ≤ l * two (V - U) * two U := by rw [← e1, ← ex]; exact amt_mono h1
  have hle2 : l * two (V - U) * two U ≤ 2 * k * two U := by rw [← ex, Nat.mul_assoc, ← e1]; exact h2
  have g1 := Nat.le_of_mul_le_mul_right hle (two_pos U)
  have g2 := Nat.le_of_mul_le_mul_right hle2 (two_pos U)
  obtain ⟨m, hm⟩ := repr_of U (l * two (V - U) - k) (by omega)
  exact ⟨m, by rw [hm, ex, e1, Nat.mul_sub_right_distrib]⟩
theorem double_repr (x : Nat) : ∃ m, amt m = 2 * amt x := by
  obtain ⟨U, k, e1, e2, -, -⟩ := amt_form x
  obtain ⟨m, hm⟩ := repr_of (U + 1) k e2
  exact ⟨m, by rw [hm, e1, two_succ, ← Nat.mul_assoc, ← Nat.mul_assoc, Nat.mul_comm k 2]⟩
/-- an amount that is a float's own is rounded to it -/
theorem rnd_exact {way : Int} {neg : Bool} {m p : Nat} (h : amt m = p) (hm : m < 2139095040) : rnd way neg p 1 = sgn neg + m := by
  have hc : IsCut p 1 m := ⟨by omega, by omega, fun _ => by have := amt_lt m; omega⟩
  unfold rnd
  rw [hc.eq]
  unfold rndM
  rw [if_neg (by omega), if_pos (.inl (by omega))]
end Go.Proofs.Ytkdlkjoeoahfpaa
