/- The contract of soft's full. -/
import Derived.Test.YtanccobllehnaaaSoftX
namespace Go.Proofs.Ytanccobllehnaaa
open Go.RowKit

theorem full_sig {s : Nat} (h0 : 0 < s) (h : s < 16777216) : 8388608 ≤ s * two (24 - blen s) ∧ s * two (24 - blen s) < 16777216 ∧ blen s ≤ 24 := by
  have hn1 := blen_le h0
  have hn2 := blen_lt s
  have hn4 := blen_pos h0
  have h24 : blen s ≤ 24 := by
    by_cases hc : blen s ≤ 24
    · exact hc
    · have := two_le (show 24 ≤ blen s - 1 by omega)
      rw [two_24] at this; omega
  refine ⟨?_, ?_, h24⟩
  · have h1 : two (blen s - 1) * two (24 - blen s) ≤ s * two (24 - blen s) := Nat.mul_le_mul_right _ hn1
    rw [← two_add, show blen s - 1 + (24 - blen s) = 23 from by omega, two_23] at h1
    exact h1
  · have h1 : s * two (24 - blen s) < two (blen s) * two (24 - blen s) := Nat.mul_lt_mul_of_pos_right hn2 (two_pos _)
    rw [← two_add, show blen s + (24 - blen s) = 24 from by omega, two_24] at h1
    exact h1
end Go.Proofs.Ytanccobllehnaaa
