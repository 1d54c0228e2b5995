/- The contract of the document's Amount. -/
import Derived.Test.YtanccobllehnaaaNatT
namespace Go.Proofs.Ytanccobllehnaaa
open Go.RowKit

theorem NO.after {w w1 w' : World} {v : Nat} {e : Ending} (hb : Below w.heap.size w w1) (h : NO w1 v e w') : NO w v e w' := by
  obtain ⟨A, k, c, l, h1, h2, h3, h4, h5, h6, h7, h8, h9⟩ := h
  exact ⟨A, k, c, l, h1, h2, h3, h4, h5, h6, h7, h8, hb.trans (h9.mono hb.size)⟩
theorem of_at {n v : Nat} {w : World} (h : Hid (n < 18446744073709551616)) (hv : n = v) : Calls Try.prog 52 #[.int .u64 (n : Int)] w (NO w v) := by
  subst hv; exact of_any n w h
set_option maxRecDepth 100000 in
set_option maxHeartbeats 800000 in
theorem amount_any (m : Nat) (w : World) (h : m < 4294967296) : Calls Try.prog 50 #[.int .u32 (m : Int)] w (NO w (amt m)) := by
  obtain ⟨e, he⟩ : ∃ x, m / 8388608 = x := ⟨_, rfl⟩
  obtain ⟨f, hf⟩ : ∃ x, m % 8388608 = x := ⟨_, rfl⟩
  have hf1 : f < 8388608 := by omega
  have he1 : e < 512 := by omega
  have e1 : (m : Int) / 8388608 = (e : Int) := by omega
  have e2 : (m : Int) % 8388608 = (f : Int) := by omega
  by_cases h0 : e = 0
  · subst h0
    have HA : Hid (f = amt m) := Lib.hid (by unfold amt; rw [if_pos he]; omega)
    clear he hf h
    go_enter Try.func50, Try.ntmps50
    go_wp2_with fail
    refine (of_at (Lib.hid (by omega)) HA.out).mono ?_
    rintro e w1 ⟨A1, k1, c1, l1, rfl, r⟩
    go_wp2
    go_ret
    exact ⟨A1, k1, c1, l1, rfl, r⟩
  · have HA : Hid (two (e - 1) * (8388608 + f) = amt m) := Lib.hid (by unfold amt; rw [if_neg (by omega), he, hf, Nat.mul_comm])
    have h0' : ((e : Int) == 0) = false := by rw [beq_eq_false_iff_ne]; omega
    have hk : (e : Int) - 1 = ((e - 1 : Nat) : Int) := by omega
    clear he hf h
    go_enter Try.func50, Try.ntmps50
    go_wp2_with fail
    have hcast : (8388608 : Int) + (f : Int) = ((8388608 + f : Nat) : Int) := by omega
    rw [hcast]
    clear hcast
    refine (of_any (8388608 + f) _ (Lib.hid (by omega))).mono ?_
    rintro e' w1 ⟨A1, k1, c1, l1, rfl, hk1, hc1, hm1, hr1, hw1, ht1, hv1, hb1⟩
    have hlen : k1 ≤ 1000000 := by
      by_cases hl : l1 = []
      · have := hk1.out; rw [hl] at this; simp at this; omega
      · have h3 := trim_pos ht1 hl
        rw [hv1] at h3
        have := hk1.out
        by_cases h4 : l1.length ≤ 2
        · omega
        · have h5 : 4294967296 ^ 1 ≤ 4294967296 ^ (l1.length - 1) := Nat.pow_le_pow_right (by omega) (by omega)
          omega
    have HW := Lib.hid hw1
    have HV := Lib.hid hv1
    clear hw1 hv1 ht1 hc1 hm1
    go_wp2_with fail
    refine (twice_any hk1 hlen (by omega) (Nat.le_refl _) hr1 HW).mono ?_
    rw [HV.out, HA.out]
    rintro e' w2 h2
    obtain ⟨A2, k2, c2, l2, rfl, r⟩ := NO.after hb1 h2
    go_wp2
    go_ret
    exact ⟨A2, k2, c2, l2, rfl, r⟩
end Go.Proofs.Ytanccobllehnaaa
