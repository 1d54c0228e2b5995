/- The plain law of reading two messages one behind the other. -/
import Derived.Test.YthhanpfcnaokpaaBackP
namespace Go.Proofs.Ythhanpfcnaokpaa

theorem rdv_pre (m : List UInt8) : ∀ (l : List UInt8) (i : Nat) (r : Nat × Nat), rdv i l = some r → rdv i (l ++ m) = some r := by
  intro l
  induction l with
  | nil => intro i r h; simp [rdv] at h
  | cons c l ih =>
    intro i r h
    rw [List.cons_append]
    unfold rdv at h ⊢
    split at h
    · cases h
    · rename_i h1
      rw [if_neg h1]
      split at h
      · rename_i h2
        rw [if_pos h2]; exact h
      · rename_i h2
        rw [if_neg h2]
        simp only [Option.map_eq_some_iff] at h
        obtain ⟨q, hq, rfl⟩ := h
        rw [ih _ _ hq]; rfl

theorem part_pre {a : List UInt8} (b : List UInt8) {p wire : Nat} {r : Nat × List UInt8 × Nat} (hp : p ≤ a.length) (h : part a p wire = some r) : part (a ++ b) p wire = some r := by
  have hd : (a ++ b).drop p = a.drop p ++ b := List.drop_append_of_le_length hp
  unfold part at h ⊢
  rw [List.length_append]
  split at h
  · rename_i hw
    rw [if_pos hw]
    simp only [Option.map_eq_some_iff] at h
    obtain ⟨q, hq, rfl⟩ := h
    rw [hd, rdv_pre b _ _ _ hq]; rfl
  · rename_i hw
    rw [if_neg hw]
    split at h
    · rename_i hw1
      rw [if_pos hw1]
      split at h
      · rename_i hl
        rw [if_pos (by omega), hd, List.take_append_of_le_length (by rw [List.length_drop]; omega)]
        exact h
      · cases h
    · rename_i hw1
      rw [if_neg hw1]
      split at h
      · rename_i hw5
        rw [if_pos hw5]
        split at h
        · rename_i hl
          rw [if_pos (by omega), hd, List.take_append_of_le_length (by rw [List.length_drop]; omega)]
          exact h
        · cases h
      · rename_i hw5
        rw [if_neg hw5]
        split at h
        · rename_i hw2
          rw [if_pos hw2]
          simp only [Option.bind_eq_some_iff] at h
          obtain ⟨q, hq, h⟩ := h
          have hn := rdv_len _ _ _ _ hq
          rw [List.length_drop] at hn
          rw [hd, rdv_pre b _ _ _ hq]
          simp only [Option.bind_some]
          split at h
          · rename_i hle
            rw [if_pos (by omega), List.drop_append_of_le_length (by omega), List.take_append_of_le_length (by rw [List.length_drop]; omega)]
            exact h
          · cases h
        · cases h

theorem part_shift (a b : List UInt8) (p wire : Nat) : part (a ++ b) (a.length + p) wire = (part b p wire).map fun r => (r.1, r.2.1, a.length + r.2.2) := by
  have hd : ∀ k, (a ++ b).drop (a.length + k) = b.drop k := fun k => by rw [List.drop_append, List.drop_of_length_le (by omega)]; simp
  unfold part
  rw [List.length_append]
  split
  · rw [hd]
    cases rdv 0 (b.drop p) <;> simp [Nat.add_assoc]
  · split
    · by_cases hl : p + 8 ≤ b.length
      · rw [if_pos (by omega), if_pos (by omega), hd]; simp [Nat.add_assoc]
      · rw [if_neg (by omega), if_neg (by omega)]; rfl
    · split
      · by_cases hl : p + 4 ≤ b.length
        · rw [if_pos (by omega), if_pos (by omega), hd]; simp [Nat.add_assoc]
        · rw [if_neg (by omega), if_neg (by omega)]; rfl
      · split
        · rw [hd]
          cases hr : rdv 0 (b.drop p) with
          | none => rfl
          | some q =>
            simp only [Option.bind_some]
            by_cases hl : p + q.2 + q.1 ≤ b.length
            · rw [if_pos (by omega), if_pos (by omega), show a.length + p + q.2 = a.length + (p + q.2) by omega, hd]; simp [Nat.add_assoc]
            · rw [if_neg (by omega), if_neg (by omega)]; rfl
        · rfl

theorem rdF_pre {a : List UInt8} (b : List UInt8) {p : Nat} {r : Fld × Nat} (hp : p ≤ a.length) (h : rdF a p = some r) : rdF (a ++ b) p = some r := by
  cases ht : rdv 0 (a.drop p) with
  | none => rw [rdF_none ht] at h; cases h
  | some t =>
    obtain ⟨tag, n⟩ := t
    have hn := rdv_len _ _ _ _ ht
    rw [List.length_drop] at hn
    have ht' : rdv 0 ((a ++ b).drop p) = some (tag, n) := by rw [List.drop_append_of_le_length hp]; exact rdv_pre b _ _ _ ht
    by_cases hbad : tag / 8 < 1 ∨ 536870911 < tag / 8
    · rw [rdF_bad ht hbad] at h; cases h
    · rw [rdF_part ht hbad] at h
      rw [rdF_part ht' hbad]
      simp only [Option.map_eq_some_iff] at h
      obtain ⟨q, hq, rfl⟩ := h
      rw [part_pre b (by omega) hq]; rfl

theorem rdF_shift (a b : List UInt8) (p : Nat) : rdF (a ++ b) (a.length + p) = (rdF b p).map fun r => (r.1, a.length + r.2) := by
  have hd : (a ++ b).drop (a.length + p) = b.drop p := by rw [List.drop_append, List.drop_of_length_le (by omega)]; simp
  cases ht : rdv 0 (b.drop p) with
  | none => rw [rdF_none ht, rdF_none (by rw [hd]; exact ht)]; rfl
  | some t =>
    obtain ⟨tag, n⟩ := t
    have ht' : rdv 0 ((a ++ b).drop (a.length + p)) = some (tag, n) := by rw [hd]; exact ht
    by_cases hbad : tag / 8 < 1 ∨ 536870911 < tag / 8
    · rw [rdF_bad ht hbad, rdF_bad ht' hbad]; rfl
    · rw [rdF_part ht hbad, rdF_part ht' hbad, Nat.add_assoc, part_shift]
      cases part b (p + n) (tag % 8) <;> rfl

theorem rda_shift (a b : List UInt8) : ∀ f p, rda f (a ++ b) (a.length + p) = rda f b p := by
  intro f
  induction f with
  | zero => intro p; rfl
  | succ f ih =>
    intro p
    unfold rda
    rw [List.length_append]
    by_cases he : p = b.length
    · rw [if_pos (by omega), if_pos he]
    · rw [if_neg (by omega), if_neg he, rdF_shift]
      cases rdF b p with
      | none => rfl
      | some r => simp only [Option.map_some]; rw [ih]

theorem rda_enough (l : List UInt8) : ∀ f g p, p ≤ l.length → l.length < p + f → l.length < p + g → rda f l p = rda g l p := by
  intro f
  induction f with
  | zero => intro g p hp h _; omega
  | succ f ih =>
    intro g p hp h h'
    cases g with
    | zero => omega
    | succ g =>
      unfold rda
      by_cases he : p = l.length
      · rw [if_pos he, if_pos he]
      · rw [if_neg he, if_neg he]
        cases hr : rdF l p with
        | none => rfl
        | some r =>
          have hq := rdF_le (f := r.1) (q := r.2) hp hr
          simp only
          rw [ih g r.2 hq.2 (by omega) (by omega)]

theorem rda_join (a b : List UInt8) : ∀ f p fs, p ≤ a.length → rda f a p = some fs → ∀ g, (a ++ b).length < p + g → rda g (a ++ b) p = (rd b).map (fs ++ ·) := by
  intro f
  induction f with
  | zero => intro p fs _ h; simp [rda] at h
  | succ f ih =>
    intro p fs hp h g hg
    rw [List.length_append] at hg
    unfold rda at h
    split at h
    · rename_i he
      simp only [Option.some.injEq] at h
      subst h
      have := rda_shift a b g 0
      rw [Nat.add_zero] at this
      rw [he, this, rd, rda_enough b g (b.length + 1) 0 (Nat.zero_le _) (by omega) (by omega)]
      simp
    · rename_i he
      cases g with
      | zero => omega
      | succ g =>
        cases hr : rdF a p with
        | none => rw [hr] at h; cases h
        | some r =>
          rw [hr] at h
          simp only [Option.map_eq_some_iff] at h
          obtain ⟨gs, hgs, rfl⟩ := h
          have hq := rdF_le (f := r.1) (q := r.2) hp hr
          conv => lhs; unfold rda
          rw [if_neg (by rw [List.length_append]; omega), rdF_pre b hp hr]
          simp only
          rw [ih r.2 gs hq.2 hgs g (by rw [List.length_append]; omega)]
          cases rd b <;> simp

/-- two messages, one behind the other, are one -/
theorem rd_join {a b : List UInt8} {fs : List Fld} (h : rd a = some fs) : rd (a ++ b) = (rd b).map (fs ++ ·) := rda_join a b _ 0 fs (Nat.zero_le _) h _ (by omega)
theorem read_join {a b : List UInt8} {fs : List Fld} (hl : a.length + b.length ≤ 4194304) (h : readE a = (fs, 0)) : readE (a ++ b) = match readE b with
    | (gs, er) => if er = 0 then (fs ++ gs, 0) else ([], er) := by
  have ha : rd a = some fs := by
    unfold readE at h
    rw [if_neg (by omega)] at h
    split at h
    · simp at h
    · rename_i fs' hfs
      simp only [Prod.mk.injEq, and_true] at h
      rw [hfs, h]
  unfold readE
  rw [List.length_append, if_neg (by omega), if_neg (by omega), rd_join ha]
  cases rd b <;> simp
end Go.Proofs.Ythhanpfcnaokpaa
