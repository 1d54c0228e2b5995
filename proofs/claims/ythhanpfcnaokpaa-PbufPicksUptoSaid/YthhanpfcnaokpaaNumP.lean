/- Plain laws of a number's values, for any way to read one field: over the fields of one number alone; the fours of bytes. -/
import Derived.Test.YthhanpfcnaokpaaRAll
namespace Go.Proofs.Ythhanpfcnaokpaa
open Go.RowKit

def gat (g : Fld → Option (List Nat)) : List Fld → Option (List Nat)
  | [] => some []
  | f :: r => match g f with
    | none => none
    | some a => (gat g r).map (a ++ ·)
def GN (g : Fld → Option (List Nat)) (fs : List Fld) (k : Nat) (out : List Nat) : Prop := k ≤ fs.length ∧ out.length + bulkF (fs.drop k) ≤ bulkF fs ∧ gat g fs = (gat g (fs.drop k)).map (out ++ ·)
theorem GN.start (g : Fld → Option (List Nat)) (fs : List Fld) : GN g fs 0 [] := ⟨Nat.zero_le _, by simp, by simp⟩
theorem GN.last {g : Fld → Option (List Nat)} {fs : List Fld} {k : Nat} {out : List Nat} (h : GN g fs k out) (hk : k = fs.length) : gat g fs = some out := by
  rw [h.2.2, hk, List.drop_length]; simp [gat]
theorem GN.bad {g : Fld → Option (List Nat)} {fs : List Fld} {k : Nat} {out : List Nat} (h : GN g fs k out) (hk : k < fs.length) (hb : g fs[k] = none) : gat g fs = none := by
  rw [h.2.2, List.drop_eq_getElem_cons hk]; simp [gat, hb]
theorem GN.step {g : Fld → Option (List Nat)} {fs : List Fld} {k : Nat} {out a : List Nat} (h : GN g fs k out) (hk : k < fs.length) (hb : g fs[k] = some a) (hl : a.length ≤ fs[k].data.length + 1) : GN g fs (k + 1) (out ++ a) := by
  obtain ⟨h1, h2, h3⟩ := h
  rw [List.drop_eq_getElem_cons hk] at h2 h3
  refine ⟨by omega, ?_, ?_⟩
  · simp only [bulkF] at h2
    rw [List.length_append]; omega
  · rw [h3]
    simp only [gat, hb]
    cases gat g (fs.drop (k + 1)) <;> simp
theorem GN.room {g : Fld → Option (List Nat)} {fs : List Fld} {k : Nat} {out : List Nat} (h : GN g fs k out) (hk : k < fs.length) : out.length + fs[k].data.length + 1 ≤ bulkF fs := by
  have := h.2.1
  rw [List.drop_eq_getElem_cons hk] at this
  simp only [bulkF] at this
  omega

theorem gat_sel {num : Int} {g g' : Fld → Option (List Nat)} (h : ∀ f, g' f = if f.num ≠ num then some [] else g f) (fs : List Fld) : gat g' fs = gat g (sel num fs) := by
  induction fs with
  | nil => rfl
  | cons f fs ih =>
    by_cases hn : f.num = num
    · have : sel num (f :: fs) = f :: sel num fs := by simp [sel, hn]
      rw [this, gat, gat, h f, ih]; simp [hn]
    · have : sel num (f :: fs) = sel num fs := by simp [sel, hn]
      rw [this, gat, h f, ih]; simp [hn]
theorem bulk_sel (num : Int) (fs : List Fld) : bulkF (sel num fs) ≤ bulkF fs := by
  induction fs with
  | nil => exact Nat.le_refl _
  | cons f fs ih =>
    by_cases hn : f.num = num
    · have : sel num (f :: fs) = f :: sel num fs := by simp [sel, hn]
      rw [this]; simp only [bulkF]; omega
    · have : sel num (f :: fs) = sel num fs := by simp [sel, hn]
      rw [this]; simp only [bulkF]; omega

/-- the varints of a field of the number that is asked for -/
def ints0 (f : Fld) : Option (List Nat) := if f.wire = 0 then some [f.x] else if f.wire = 2 then vs f.data else none
theorem ints_gat (num : Int) (fs : List Fld) : ints num fs = gat ints0 (sel num fs) := by
  rw [← gat_sel (g' := ints1 num) (g := ints0) (fun f => rfl)]
  induction fs with
  | nil => rfl
  | cons f fs ih => rw [ints, gat, ih]; cases ints1 num f <;> rfl

/-- the fours of bytes -/
def fours (l : List UInt8) (k : Nat) : List Nat := (List.range k).map fun i => lit8 ((l.drop (4 * i)).take 4)
theorem fours_succ (l : List UInt8) (k : Nat) : fours l (k + 1) = fours l k ++ [lit8 ((l.drop (4 * k)).take 4)] := by simp [fours, List.range_succ]
theorem fours_len (l : List UInt8) (k : Nat) : (fours l k).length = k := by simp [fours]
theorem four_lt (l : List UInt8) (k : Nat) : lit8 ((l.drop (4 * k)).take 4) < 4294967296 := by
  refine Nat.lt_of_lt_of_le (lit8_lt _) ?_
  refine Nat.le_trans (Nat.pow_le_pow_right (by omega) (List.length_take_le 4 _)) (by decide)
def fixs0 (f : Fld) : Option (List Nat) := if f.wire = 5 then some [f.x % 4294967296] else if f.wire = 2 ∧ f.data.length % 4 = 0 then some (fours f.data (f.data.length / 4)) else none
def fixs1 (num : Int) (f : Fld) : Option (List Nat) := if f.num ≠ num then some [] else fixs0 f
theorem fixs_gat (num : Int) (fs : List Fld) : gat (fixs1 num) fs = gat fixs0 (sel num fs) := gat_sel (fun _ => rfl) fs

/-- what Ints and Fixed answer -/
def NR (k : IntKind) (t : TypeId) (w : World) (r : Option (List Nat)) (e : Ending) (w' : World) : Prop := ∃ v, e = .returned (.tuple #[v, .int .i64 (match r with | none => 6 | some _ => 0)]) ∧ ON k w' w.heap.size t v (r.getD []) ∧ Below w.heap.size w w'
theorem NR.bad {k : IntKind} {t : TypeId} {w w' : World} {r : Option (List Nat)} (h : r = none) (hb : Below w.heap.size w w') : NR k t w r (.returned (.tuple #[.slice none 0 0, .int .i64 6])) w' := by
  subst h; exact ⟨_, rfl, ON.nil _ _ _ _, hb⟩
theorem NR.good {k : IntKind} {t : TypeId} {w w' : World} {r : Option (List Nat)} {xs : List Nat} {v : Value} (h : r = some xs) (ho : ON k w' w.heap.size t v xs) (hb : Below w.heap.size w w') : NR k t w r (.returned (.tuple #[v, .int .i64 0])) w' := by
  subst h; exact ⟨_, rfl, ho, hb⟩
theorem ON.mono {k : IntKind} {w : World} {base base' : Nat} {e : TypeId} {v : Value} {l : List Nat} (h : ON k w base e v l) (hb : base' ≤ base) : ON k w base' e v l := by
  rcases h.2 with h' | ⟨g, cap, cur, h1, h2, h3⟩
  · exact ⟨h.1, .inl h'⟩
  · exact ⟨h.1, .inr ⟨g, cap, cur, h1, by omega, h3⟩⟩
theorem NR.after {k : IntKind} {t : TypeId} {w w1 w' : World} {r : Option (List Nat)} {e : Ending} (hb : Below w.heap.size w w1) (h : NR k t w1 r e w') : NR k t w r e w' := by
  obtain ⟨v, rfl, h2, h3⟩ := h
  exact ⟨v, rfl, h2.mono hb.size, hb.trans (h3.mono hb.size)⟩
def GNrel (g : Fld → Option (List Nat)) (fs : List Fld) (k : IntKind) (t : TypeId) (w : World) (out i : Value) (wr : World) : Prop := ∃ (n : Nat) (xs : List Nat), i = .int .i64 (n : Int) ∧ GN g fs n xs ∧ ON k wr w.heap.size t out xs ∧ Below w.heap.size w wr
def VTrel (l : List UInt8) (xs : List Nat) (w : World) (out p : Value) (wr : World) : Prop :=
  ∃ (q : Nat) (ys : List Nat), p = .int .i64 (q : Int) ∧ VS l ys q ∧ ON .u64 wr w.heap.size 23 out (xs ++ ys) ∧ Below w.heap.size w wr
end Go.Proofs.Ythhanpfcnaokpaa
