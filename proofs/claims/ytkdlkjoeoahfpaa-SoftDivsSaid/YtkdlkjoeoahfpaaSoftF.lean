/- The contract of soft's full. -/
import Derived.Test.YtkdlkjoeoahfpaaSoftX
namespace Go.Proofs.Ytkdlkjoeoahfpaa
open Go.RowKit

theorem full_out (w : World) (tmps : Array Value) (g : Nat) (c0 c1 c2 c3 c4 : Value) (h2 : tmps.getD 2 undef = .pointer (some ⟨g, 0, none⟩)) (hk : Blk w g 49 #[c0, c1, c2, c3, c4]) :
    (results Try.f57 tmps).run Try.prog w = .ok (.agg #[c0, c1, c2, c3, c4]) w := by
  obtain ⟨k0, k1, k2, k3, k4⟩ := blk5 hk
  rw [Array.getD_eq_getD_getElem?] at h2
  simp [results, Try.results57, go_sem, h2, k0, k1, k2, k3, k4]
  try rfl
theorem full_sig {s : Nat} (h0 : 0 < s) (h : s < 16777216) : 8388608 ≤ s * two (24 - blen s) ∧ s * two (24 - blen s) < 16777216 ∧ blen s ≤ 24 := by
  have hn1 := blen_le h0
  have hn2 := blen_lt s
  have hn4 := blen_pos h0
  have h24 : blen s ≤ 24 := by
    by_cases hc : blen s ≤ 24
    · exact hc
    · have := two_le (show 24 ≤ blen s - 1 by omega)
      rw [two_24] at this; omega
  refine ⟨?_, ?_, h24⟩
  · have h1 : two (blen s - 1) * two (24 - blen s) ≤ s * two (24 - blen s) := Nat.mul_le_mul_right _ hn1
    rw [← two_add, show blen s - 1 + (24 - blen s) = 23 from by omega, two_23] at h1
    exact h1
  · have h1 : s * two (24 - blen s) < two (blen s) * two (24 - blen s) := Nat.mul_lt_mul_of_pos_right hn2 (two_pos _)
    rw [← two_add, show blen s + (24 - blen s) = 24 from by omega, two_24] at h1
    exact h1
set_option maxRecDepth 100000 in
set_option maxHeartbeats 800000 in
theorem full_any {xn xnan xinf : Bool} {xe : Int} {xs k m : Nat} (w : World) (h0 : 0 < xs) (h : xs < 16777216) (he : -149 ≤ xe ∧ xe ≤ 104) (hk : Hid (24 - blen xs = k)) (hm : Hid (xs * two k = m)) :
    Calls Try.prog 57 #[.agg #[.bool xn, .bool xnan, .bool xinf, .int .i64 xe, .int .u64 (xs : Int)]] w fun e w' => e = .returned (.agg #[.bool xn, .bool xnan, .bool xinf, .int .i64 (xe - k), .int .u64 (m : Int)]) ∧ Below w.heap.size w w' := by
  obtain ⟨f1, f2, f3⟩ := full_sig h0 h
  have hk' := hk.out
  have hm' := hm.out
  rw [hk', hm'] at f1 f2
  have hkk : (24 : Int) - (blen xs : Int) = (k : Int) := by omega
  have hk24 : k ≤ 24 := by omega
  have hsh : IntKind.u64.wrap ((xs : Int) * 2 ^ k) = (m : Int) := by
    rw [two_cast, ← Int.natCast_mul, hm', wrap64_nat (by omega)]
  clear hk' hm' f3
  go_enter Try.func57, Try.ntmps57
  go_wp2_with (go_at_call 47; refine (len_any xs _ (by omega)).mono ?_; rintro e w' ⟨rfl, rfl⟩)
  refine bodyPost_ret (full_out _ _ (w.heap.size + 1) _ _ _ _ _ rfl (by have := Blk.new (w.alloc (.cells #[.bool xn, .bool xnan, .bool xinf, .int .i64 (xe - k), .int .u64 (m : Int)] 49)) 49 #[.bool xn, .bool xnan, .bool xinf, .int .i64 (xe - k), .int .u64 (m : Int)]; simpa using this)) rfl ?_
  exact ⟨rfl, ((Below.refl w.heap.size w).alloc (Nat.le_refl _) _).alloc (by simp) _⟩
end Go.Proofs.Ytkdlkjoeoahfpaa
