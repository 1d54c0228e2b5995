/- Small contracts of the document's chapter, and of Minus by worth. -/
import Derived.Test.YtanccobllehnaaaNatQ
import Derived.Test.YtanccobllehnaaaRefP
import Derived.Test.YtanccobllehnaaaLooks
namespace Go.Proofs.Ytanccobllehnaaa
open Go.RowKit

theorem rabs_at {a r : Nat} {w : World} (h : Hid (a < 4294967296)) (hr : Hid (absP a = r)) : Calls Try.prog 47 #[.int .u32 (a : Int)] w fun e w' => e = .returned (.int .u32 (r : Int)) ∧ w' = w := by
  have := rabs_any a w h
  rw [hr.out] at this
  exact this
theorem signed_any (neg : Bool) (m : Nat) (w : World) (h : m ≤ 2147483647) : Calls Try.prog 78 #[.bool neg, .int .u32 (m : Int)] w fun e w' => e = .returned (.int .u32 ((sgn neg + m : Nat) : Int)) ∧ w' = w := by
  have e1 : ((sgn true + m : Nat) : Int) = (m : Int) + 2147483648 := by show ((2147483648 + m : Nat) : Int) = _; omega
  have e2 : ((sgn false + m : Nat) : Int) = (m : Int) := by show ((0 + m : Nat) : Int) = _; omega
  have E1 := Lib.hid e1
  have E2 := Lib.hid e2
  clear e1 e2
  cases neg
  · go_enter Try.func78, Try.ntmps78
    go_wp2
    go_ret
    exact ⟨by rw [E2.out]; try rfl, rfl⟩
  · go_enter Try.func78, Try.ntmps78
    go_wp2
    go_ret
    exact ⟨by rw [E1.out]; try rfl, rfl⟩
theorem minus_nv {A A' : Option Addr} {n n' cap cap' B B' x y v : Nat} {w : World} (ha : NV w B A n x) (hb : NV w B' A' n' y) (hx : x < two 30000) (hle : y ≤ x) (hv : Hid (x - y = v)) :
    Calls Try.prog 56 #[.slice A n cap, .slice A' n' cap'] w (NR w v) := by
  have hl := ha.len hx
  obtain ⟨l, h1, h2, h3, h4, h5, h6⟩ := ha
  obtain ⟨m, g1, g2, g3, g4, g5, g6⟩ := hb
  have hnn : n' ≤ n := by
    by_cases hh : n' ≤ n
    · exact hh
    · have := trim_len h3 g4 (by omega)
      omega
  have := minus_any (cap := cap) (cap' := cap') (Lib.hid h1) (Lib.hid g1) hl hnn h6 g6 h2 g2 (Lib.hid h3) (Lib.hid g3) (Lib.hid (by rw [h5, g5]; exact hle))
  rw [h5, g5, hv.out] at this
  exact this.mono fun _ _ h => h.nr
theorem amt_amt {x y : Nat} (hx : x ≤ 2139095040) (hy : y ≤ 2139095040) : amt x * amt y < two 10000 := by
  have h1 : amt x * amt y ≤ two 277 * two 277 := Nat.mul_le_mul (amt_le hx) (amt_le hy)
  rw [← two_add] at h1
  have h2 := two_le (show 277 + 277 + 1 ≤ 10000 by omega)
  have h3 := two_pos (277 + 277)
  rw [two_succ] at h2
  omega
theorem amt_ten {x : Nat} (hx : x ≤ 2139095040) : amt x < two 10000 := by
  have h1 := amt_le hx
  have h2 := two_le (show 277 + 1 ≤ 10000 by omega)
  have h3 := two_pos 277
  rw [two_succ] at h2
  omega
theorem amt_plus {x y : Nat} (hx : x ≤ 2139095040) (hy : y ≤ 2139095040) : amt x + amt y < two 10000 := by
  have h1 := amt_le hx
  have h1' := amt_le hy
  have h2 := two_le (show 277 + 1 + 1 ≤ 10000 by omega)
  have h3 := two_pos 277
  rw [two_succ, two_succ] at h2
  omega
theorem amt_149 {x : Nat} (hx : x ≤ 2139095040) : two 149 * amt x < two 10000 := by
  have h1 : two 149 * amt x ≤ two 149 * two 277 := Nat.mul_le_mul_left _ (amt_le hx)
  rw [← two_add] at h1
  have h2 := two_le (show 149 + 277 + 1 ≤ 10000 by omega)
  have h3 := two_pos (149 + 277)
  rw [two_succ] at h2
  omega
theorem big149 : two 149 < two 10000 := by
  have h2 := two_le (show 149 + 1 ≤ 10000 by omega)
  have h3 := two_pos 149
  rw [two_succ] at h2
  omega
theorem big_1 : 1 < two 10000 := by
  have h2 := two_le (show 0 + 1 ≤ 10000 by omega)
  exact Nat.lt_of_lt_of_le (by decide) h2
theorem nil_len {w : World} {B : Nat} {A : Option Addr} {n v : Nat} (h : NV w B A n v) (hv : v = 0) : ((n : Int) == 0) = true := by
  have := (nv_zero h).1 hv
  subst this
  rfl
theorem some_len {w : World} {B : Nat} {A : Option Addr} {n v : Nat} (h : NV w B A n v) (hv : v ≠ 0) : ((n : Int) == 0) = false := by
  rw [beq_eq_false_iff_ne]
  intro e
  exact hv ((nv_zero h).2 (by omega))
theorem int_eq {x y : Nat} (h : x = y) : ((x : Int) == (y : Int)) = true := by subst h; simp
theorem int_ne {x y : Nat} (h : x ≠ y) : ((x : Int) == (y : Int)) = false := by rw [beq_eq_false_iff_ne]; omega
end Go.Proofs.Ytanccobllehnaaa
