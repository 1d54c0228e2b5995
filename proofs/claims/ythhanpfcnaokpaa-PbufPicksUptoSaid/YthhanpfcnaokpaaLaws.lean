/- Plain laws of layer 6: what is written is read. No program in sight. -/
import Derived.Test.YthhanpfcnaokpaaPlain
namespace Go.Proofs.Ythhanpfcnaokpaa

theorem rdv_vif (t : List UInt8) : ∀ (f x : Nat), f ≤ 9 → x * 128 ^ (9 - f) < 18446744073709551616 → rdv (9 - f) (vif f x ++ t) = some (x, (vif f x).length) := by
  intro f
  induction f with
  | zero =>
    intro x _ hx
    have h9 : 128 ^ 9 = 9223372036854775808 := by decide
    rw [Nat.sub_zero, h9] at hx
    have h1 : (UInt8.ofNat x).toNat = x := by simp; omega
    simp only [vif, List.cons_append, List.nil_append, rdv, h1]
    rw [if_neg (by omega), if_pos (by omega)]
    simp
  | succ f ih =>
    intro x hf hx
    have hi : ¬ (9 - (f + 1) = 9) := by omega
    by_cases h : x < 128
    · have h1 : (UInt8.ofNat x).toNat = x := by simp; omega
      simp only [vif, h, if_true, List.cons_append, List.nil_append, rdv, h1]
      rw [if_neg (fun hh => hi hh.1)]
      simp
    · have h1 : (UInt8.ofNat (x % 128 + 128)).toNat = x % 128 + 128 := by simp; omega
      simp only [vif, h, if_false, List.cons_append, rdv, h1]
      rw [if_neg (fun hh => hi hh.1), if_neg (by omega), show 9 - (f + 1) + 1 = 9 - f by omega]
      have hle : x / 128 * 128 ≤ x := Nat.div_mul_le_self x 128
      rw [ih (x / 128) (by omega) (by
        have h2 : x / 128 * 128 * 128 ^ (9 - (f + 1)) ≤ x * 128 ^ (9 - (f + 1)) := Nat.mul_le_mul_right _ hle
        rw [show 9 - f = 9 - (f + 1) + 1 by omega, Nat.pow_succ, Nat.mul_comm (128 ^ _), ← Nat.mul_assoc]; omega)]
      simp only [Option.map_some, Option.some.injEq, Prod.mk.injEq, List.length_cons, and_true]
      omega

theorem rdv_vi (x : Nat) (t : List UInt8) (h : x < 18446744073709551616) : rdv 0 (vi x ++ t) = some (x, (vi x).length) := by
  exact rdv_vif t 9 x (by omega) (by simpa using h)

theorem rvar_vi (x : Nat) (h : x < 18446744073709551616) : rvar (vi x) (0 : Int) = (x, ((vi x).length : Int), 0) := by
  have h1 := rdv_vi x [] h
  rw [List.append_nil] at h1
  have := rvar_some (l := vi x) (q := 0) (x := x) (n := (vi x).length) (Nat.zero_le _) (by simpa using h1)
  simpa using this
theorem rda_len (l : List UInt8) : ∀ f p fs, p ≤ l.length → rda f l p = some fs → fs.length + p ≤ l.length := by
  intro f
  induction f with
  | zero => intro p fs _ h; simp [rda] at h
  | succ f ih =>
    intro p fs hp h
    unfold rda at h
    split at h
    · simp only [Option.some.injEq] at h; subst h; simpa using hp
    · split at h
      · cases h
      · rename_i a q hq
        simp only [Option.map_eq_some_iff] at h
        obtain ⟨r, hr, rfl⟩ := h
        have h1 := rdF_le hp hq
        have := ih q r h1.2 hr
        simp only [List.length_cons]; omega
theorem readE_len (l : List UInt8) : (readE l).1.length ≤ 4194304 := by
  unfold readE
  split
  · simp
  · split
    · simp
    · rename_i h fs hfs
      have := rda_len l _ 0 fs (Nat.zero_le _) hfs
      simp only; omega
theorem part_data {l : List UInt8} {p wire x q : Nat} {d : List UInt8} (h : part l p wire = some (x, d, q)) : d.length ≤ l.length := by
  unfold part at h
  split at h
  · simp only [Option.map_eq_some_iff, Prod.mk.injEq] at h
    obtain ⟨r, hr, -, h3, -⟩ := h
    rw [← h3]; simp
  · split at h
    · split at h
      · simp only [Option.some.injEq, Prod.mk.injEq] at h; rw [← h.2.1]; simp
      · cases h
    · split at h
      · split at h
        · simp only [Option.some.injEq, Prod.mk.injEq] at h; rw [← h.2.1]; simp
        · cases h
      · split at h
        · simp only [Option.bind_eq_some_iff] at h
          obtain ⟨r, hr, h⟩ := h
          split at h
          · simp only [Option.some.injEq, Prod.mk.injEq] at h
            rw [← h.2.1, List.length_take, List.length_drop]; omega
          · cases h
        · cases h
theorem rdF_data {l : List UInt8} {p q : Nat} {f : Fld} (h : rdF l p = some (f, q)) : f.data.length ≤ l.length := by
  unfold rdF at h
  split at h
  · cases h
  · split at h
    · cases h
    · simp only [Option.map_eq_some_iff, Prod.mk.injEq] at h
      obtain ⟨r, hr, h1, -⟩ := h
      rw [← h1]
      exact part_data (x := r.1) (d := r.2.1) (q := r.2.2) hr
theorem rda_data (l : List UInt8) : ∀ f p fs, rda f l p = some fs → ∀ a ∈ fs, a.data.length ≤ l.length := by
  intro f
  induction f with
  | zero => intro p fs h; simp [rda] at h
  | succ f ih =>
    intro p fs h
    unfold rda at h
    split at h
    · simp only [Option.some.injEq] at h; subst h; simp
    · split at h
      · cases h
      · rename_i a q hq
        simp only [Option.map_eq_some_iff] at h
        obtain ⟨r, hr, rfl⟩ := h
        intro b hb
        rcases List.mem_cons.1 hb with rfl | hb
        · exact rdF_data hq
        · exact ih q r hr b hb
theorem readE_data (l : List UInt8) : ∀ a ∈ (readE l).1, a.data.length ≤ 4194304 := by
  unfold readE
  split
  · simp
  · split
    · simp
    · rename_i h fs hfs
      intro a ha
      have := rda_data l _ 0 fs hfs a ha
      omega
end Go.Proofs.Ythhanpfcnaokpaa
