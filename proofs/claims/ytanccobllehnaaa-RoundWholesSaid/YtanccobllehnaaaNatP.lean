/- Plain: whole numbers of any length as words of 32 bits, the lowest first. -/
import Derived.Test.YtanccobllehnaaaAddP
namespace Go.Proofs.Ytanccobllehnaaa

/-- what words are worth -/
def wv : List Nat → Nat
  | [] => 0
  | d :: l => d + 4294967296 * wv l
/-- words of 32 bits -/
def Wd (l : List Nat) : Prop := ∀ d ∈ l, d < 4294967296
/-- no nought at the end -/
def Trim (l : List Nat) : Prop := ∀ h : l ≠ [], l.getLast h ≠ 0
theorem wv_append (a b : List Nat) : wv (a ++ b) = wv a + 4294967296 ^ a.length * wv b := by
  induction a with
  | nil => simp [wv]
  | cons d a ih =>
    simp only [List.cons_append, wv, ih, List.length_cons, Nat.pow_succ]
    rw [Nat.mul_add, Nat.add_assoc, ← Nat.mul_assoc, Nat.mul_comm (4294967296 ^ a.length) 4294967296]
theorem wv_lt {l : List Nat} (h : Wd l) : wv l < 4294967296 ^ l.length := by
  induction l with
  | nil => simp [wv]
  | cons d l ih =>
    have h1 := h d (by simp)
    have h2 := ih (fun x hx => h x (by simp [hx]))
    simp only [wv, List.length_cons, Nat.pow_succ]
    have h3 : 4294967296 * (wv l + 1) ≤ 4294967296 * 4294967296 ^ l.length := Nat.mul_le_mul_left _ h2
    rw [Nat.mul_comm (4294967296 ^ l.length)]
    rw [Nat.mul_add, Nat.mul_one] at h3
    omega
theorem wv_zero {l : List Nat} (h : ∀ d ∈ l, d = 0) : wv l = 0 := by
  induction l with
  | nil => rfl
  | cons d l ih =>
    simp only [wv]
    rw [h d (by simp), ih (fun x hx => h x (by simp [hx]))]
theorem trim_pos {l : List Nat} (h : Trim l) (hn : l ≠ []) : 4294967296 ^ (l.length - 1) ≤ wv l := by
  have e := List.dropLast_concat_getLast hn
  have h1 := h hn
  have hl : l.dropLast.length = l.length - 1 := by simp
  rw [← hl]
  conv => rhs; rw [← e]
  rw [wv_append]
  have : 4294967296 ^ l.dropLast.length * 1 ≤ 4294967296 ^ l.dropLast.length * wv [l.getLast hn] := Nat.mul_le_mul_left _ (by simp only [wv]; omega)
  omega
theorem trim_nil {l : List Nat} (h : Trim l) : wv l = 0 ↔ l = [] := by
  constructor
  · intro e
    by_cases hn : l = []
    · exact hn
    · have := trim_pos h hn
      have := Nat.pow_pos (n := l.length - 1) (show 0 < 4294967296 by omega)
      omega
  · rintro rfl; rfl
/-- of unlike lengths -/
theorem trim_len {a b : List Nat} (ha : Wd a) (hb : Trim b) (h : a.length < b.length) : wv a < wv b := by
  have hn : b ≠ [] := by rintro rfl; simp at h
  have h1 := wv_lt ha
  have h2 := trim_pos hb hn
  have h3 : 4294967296 ^ a.length ≤ 4294967296 ^ (b.length - 1) := Nat.pow_le_pow_right (by omega) (by omega)
  omega
/-- of one length: the highest word that parts them -/
theorem wv_take {l : List Nat} {k : Nat} (h : k < l.length) : wv (l.take (k + 1)) = wv (l.take k) + 4294967296 ^ k * l[k] := by
  rw [List.take_succ_eq_append_getElem h, wv_append]
  simp only [wv, List.length_take]
  rw [Nat.min_eq_left (by omega)]
  rfl
theorem wv_drop {l : List Nat} {k : Nat} (h : k < l.length) : wv (l.drop k) = l[k] + 4294967296 * wv (l.drop (k + 1)) := by
  rw [List.drop_eq_getElem_cons h]; rfl
/-- the same words from k on, and one that is less below: less -/
theorem wv_less {a b : List Nat} {k : Nat} (ha : Wd a) (hka : k < a.length) (hkb : k < b.length) (he : a.drop (k + 1) = b.drop (k + 1)) (h : a[k] < b[k]) : wv a < wv b := by
  have e1 : wv a = wv (a.take k) + 4294967296 ^ k * wv (a.drop k) := by
    conv => lhs; rw [← List.take_append_drop k a]
    rw [wv_append, List.length_take, Nat.min_eq_left (by omega)]
  have e2 : wv b = wv (b.take k) + 4294967296 ^ k * wv (b.drop k) := by
    conv => lhs; rw [← List.take_append_drop k b]
    rw [wv_append, List.length_take, Nat.min_eq_left (by omega)]
  have h1 := wv_lt (l := a.take k) (fun d hd => ha d (List.mem_of_mem_take hd))
  rw [List.length_take, Nat.min_eq_left (by omega)] at h1
  rw [e1, e2, wv_drop hka, wv_drop hkb, he]
  have h2 : 4294967296 ^ k * (a[k] + 4294967296 * wv (b.drop (k + 1)) + 1) ≤ 4294967296 ^ k * (b[k] + 4294967296 * wv (b.drop (k + 1))) := Nat.mul_le_mul_left _ (by omega)
  rw [Nat.mul_add, Nat.mul_one] at h2
  omega
/-- noughts at the end are worth nothing -/
theorem wv_trim {l : List Nat} {n : Nat} (h : ∀ d ∈ l.drop n, d = 0) : wv (l.take n) = wv l := by
  conv => rhs; rw [← List.take_append_drop n l]
  rw [wv_append, wv_zero h, Nat.mul_zero, Nat.add_zero]
end Go.Proofs.Ytanccobllehnaaa
