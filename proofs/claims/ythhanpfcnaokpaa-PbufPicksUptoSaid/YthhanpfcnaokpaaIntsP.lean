/- Plain laws of a number's values: the varints of bytes, of fields, and that two lists of fields joined give both. -/
import Derived.Test.YthhanpfcnaokpaaOpenF
namespace Go.Proofs.Ythhanpfcnaokpaa
open Go.RowKit

def vsa : Nat → List UInt8 → Nat → Option (List Nat)
  | 0, _, _ => none
  | f + 1, l, p => if p = l.length then some [] else match rdv 0 (l.drop p) with
    | none => none
    | some (x, n) => (vsa f l (p + n)).map (x :: ·)
def vs (l : List UInt8) : Option (List Nat) := vsa (l.length + 1) l 0
/-- some varints have been read, up to a place -/
def VS (l : List UInt8) (xs : List Nat) (p : Nat) : Prop := p ≤ l.length ∧ xs.length ≤ p ∧ ∃ f, l.length < p + f ∧ vs l = (vsa f l p).map (xs ++ ·)
theorem VS.start (l : List UInt8) : VS l [] 0 := ⟨Nat.zero_le _, Nat.le_refl _, l.length + 1, by omega, by simp [vs]⟩
theorem VS.none_ {l : List UInt8} {xs : List Nat} {p : Nat} (h : VS l xs p) (hp : p < l.length) (hn : rdv 0 (l.drop p) = none) : vs l = none := by
  obtain ⟨h1, -, f, h2, h3⟩ := h
  cases f with
  | zero => omega
  | succ f => rw [h3]; simp [vsa, hn]; omega
theorem VS.last {l : List UInt8} {xs : List Nat} {p : Nat} (h : VS l xs p) (hp : p = l.length) : vs l = some xs := by
  obtain ⟨h1, -, f, h2, h3⟩ := h
  cases f with
  | zero => omega
  | succ f => rw [h3]; simp [vsa, hp]
theorem VS.more {l : List UInt8} {xs : List Nat} {p x n : Nat} (h : VS l xs p) (hp : p < l.length) (hn : rdv 0 (l.drop p) = some (x, n)) : VS l (xs ++ [x]) (p + n) := by
  have hq := rdv_len _ _ _ _ hn
  rw [List.length_drop] at hq
  obtain ⟨h1, h4, f, h2, h3⟩ := h
  cases f with
  | zero => omega
  | succ f =>
    refine ⟨by omega, by simp; omega, f, by omega, ?_⟩
    rw [h3]
    have : vsa (f + 1) l p = (vsa f l (p + n)).map (x :: ·) := by
      conv => lhs; unfold vsa
      rw [if_neg (by omega), hn]
    rw [this]
    cases vsa f l (p + n) <;> simp

def ints1 (num : Int) (f : Fld) : Option (List Nat) := if f.num ≠ num then some [] else if f.wire = 0 then some [f.x] else if f.wire = 2 then vs f.data else none
def ints (num : Int) : List Fld → Option (List Nat)
  | [] => some []
  | f :: r => match ints1 num f with
    | none => none
    | some a => (ints num r).map (a ++ ·)
def IN (num : Int) (fs : List Fld) (k : Nat) (out : List Nat) : Prop := k ≤ fs.length ∧ out.length + bulkF (fs.drop k) ≤ bulkF fs ∧ ints num fs = (ints num (fs.drop k)).map (out ++ ·)
theorem IN.start (num : Int) (fs : List Fld) : IN num fs 0 [] := ⟨Nat.zero_le _, by simp, by simp⟩
theorem IN.last {num : Int} {fs : List Fld} {k : Nat} {out : List Nat} (h : IN num fs k out) (hk : k = fs.length) : ints num fs = some out := by
  rw [h.2.2, hk, List.drop_length]; simp [ints]
theorem IN.bad {num : Int} {fs : List Fld} {k : Nat} {out : List Nat} (h : IN num fs k out) (hk : k < fs.length) (hb : ints1 num fs[k] = none) : ints num fs = none := by
  rw [h.2.2, List.drop_eq_getElem_cons hk]; simp [ints, hb]
theorem IN.step {num : Int} {fs : List Fld} {k : Nat} {out a : List Nat} (h : IN num fs k out) (hk : k < fs.length) (hb : ints1 num fs[k] = some a) (hl : a.length ≤ fs[k].data.length + 1) : IN num fs (k + 1) (out ++ a) := by
  obtain ⟨h1, h2, h3⟩ := h
  rw [List.drop_eq_getElem_cons hk] at h2 h3
  refine ⟨by omega, ?_, ?_⟩
  · simp only [bulkF] at h2
    rw [List.length_append]; omega
  · rw [h3]
    simp only [ints, hb]
    cases ints num (fs.drop (k + 1)) <;> simp
theorem ints_append (num : Int) (a b : List Fld) : ints num (a ++ b) = match ints num a with
    | none => none
    | some x => (ints num b).map (x ++ ·) := by
  induction a with
  | nil => simp [ints]
  | cons f a ih =>
    simp only [List.cons_append, ints]
    cases ints1 num f with
    | none => rfl
    | some y =>
      simp only [ih]
      cases ints num a with
      | none => simp
      | some x => simp; cases ints num b <;> simp
theorem bulk_append (a b : List Fld) : bulkF (a ++ b) = bulkF a + bulkF b := by
  induction a with
  | nil => simp [bulkF]
  | cons f a ih => simp only [List.cons_append, bulkF, ih]; omega
theorem ints_len {num : Int} {fs : List Fld} {xs : List Nat} (h : ints num fs = some xs) : xs.length ≤ bulkF fs := by
  induction fs generalizing xs with
  | nil => simp [ints] at h; subst h; simp
  | cons f fs ih =>
    simp only [ints] at h
    cases h1 : ints1 num f with
    | none => rw [h1] at h; simp at h
    | some a =>
      rw [h1] at h
      cases h2 : ints num fs with
      | none => rw [h2] at h; simp at h
      | some b =>
        rw [h2] at h
        simp only [Option.map_some, Option.some.injEq] at h
        have hb := ih h2
        have ha : a.length ≤ f.data.length + 1 := by
          unfold ints1 at h1
          split at h1
          · simp at h1; subst h1; simp
          · split at h1
            · simp at h1; subst h1; simp
            · split at h1
              · have hv : ∀ f l p xs, p ≤ l.length → vsa f l p = some xs → xs.length ≤ l.length - p := by
                  intro f
                  induction f with
                  | zero => intro l p xs _ h; simp [vsa] at h
                  | succ f ihf =>
                    intro l p xs hp h
                    unfold vsa at h
                    split at h
                    · simp at h; subst h; simp
                    · split at h
                      · simp at h
                      · rename_i x n hr
                        have hn := rdv_len _ _ _ _ hr
                        rw [List.length_drop] at hn
                        simp only [Option.map_eq_some_iff] at h
                        obtain ⟨ys, hy, rfl⟩ := h
                        have := ihf _ _ _ (by omega) hy
                        simp; omega
                have := hv _ _ _ _ (Nat.zero_le _) h1
                omega
              · cases h1
        subst h
        simp only [bulkF, List.length_append]; omega
end Go.Proofs.Ythhanpfcnaokpaa
