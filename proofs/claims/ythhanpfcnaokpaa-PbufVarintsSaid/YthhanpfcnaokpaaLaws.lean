/- Plain laws of layer 6: what is written is read. No program in sight. -/
import Derived.Test.YthhanpfcnaokpaaPlain
namespace Go.Proofs.Ythhanpfcnaokpaa

theorem rdv_vif (t : List UInt8) : ∀ (f x : Nat), f ≤ 9 → x * 128 ^ (9 - f) < 18446744073709551616 → rdv (9 - f) (vif f x ++ t) = some (x, (vif f x).length) := by
  intro f
  induction f with
  | zero =>
    intro x _ hx
    have h9 : 128 ^ 9 = 9223372036854775808 := by decide
    rw [Nat.sub_zero, h9] at hx
    have h1 : (UInt8.ofNat x).toNat = x := by simp; omega
    simp only [vif, List.cons_append, List.nil_append, rdv, h1]
    rw [if_neg (by omega), if_pos (by omega)]
    simp
  | succ f ih =>
    intro x hf hx
    have hi : ¬ (9 - (f + 1) = 9) := by omega
    by_cases h : x < 128
    · have h1 : (UInt8.ofNat x).toNat = x := by simp; omega
      simp only [vif, h, if_true, List.cons_append, List.nil_append, rdv, h1]
      rw [if_neg (fun hh => hi hh.1)]
      simp
    · have h1 : (UInt8.ofNat (x % 128 + 128)).toNat = x % 128 + 128 := by simp; omega
      simp only [vif, h, if_false, List.cons_append, rdv, h1]
      rw [if_neg (fun hh => hi hh.1), if_neg (by omega), show 9 - (f + 1) + 1 = 9 - f by omega]
      have hle : x / 128 * 128 ≤ x := Nat.div_mul_le_self x 128
      rw [ih (x / 128) (by omega) (by
        have h2 : x / 128 * 128 * 128 ^ (9 - (f + 1)) ≤ x * 128 ^ (9 - (f + 1)) := Nat.mul_le_mul_right _ hle
        rw [show 9 - f = 9 - (f + 1) + 1 by omega, Nat.pow_succ, Nat.mul_comm (128 ^ _), ← Nat.mul_assoc]; omega)]
      simp only [Option.map_some, Option.some.injEq, Prod.mk.injEq, List.length_cons, and_true]
      omega

theorem rdv_vi (x : Nat) (t : List UInt8) (h : x < 18446744073709551616) : rdv 0 (vi x ++ t) = some (x, (vi x).length) := by
  exact rdv_vif t 9 x (by omega) (by simpa using h)

theorem rvar_vi (x : Nat) (h : x < 18446744073709551616) : rvar (vi x) (0 : Int) = (x, ((vi x).length : Int), 0) := by
  have h1 := rdv_vi x [] h
  rw [List.append_nil] at h1
  have := rvar_some (l := vi x) (q := 0) (x := x) (n := (vi x).length) (Nat.zero_le _) (by simpa using h1)
  simpa using this
end Go.Proofs.Ythhanpfcnaokpaa
