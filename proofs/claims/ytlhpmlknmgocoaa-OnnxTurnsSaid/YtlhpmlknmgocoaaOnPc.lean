/- Fields sorted by number: the loop's state. -/
import Derived.Test.YtlhpmlknmgocoaaOnPb
namespace Go.Proofs.Ytlhpmlknmgocoaa
set_option linter.unusedSimpArgs false
set_option linter.unusedVariables false
open Go.RowKit

def ordL : List Int := [12, 11, 5, 2, 1]
def pre5 (fs : List Fld) (k : Nat) : List Fld := (ordL.take k).flatMap fun n => sel n fs
theorem pre5_all (fs : List Fld) : pre5 fs 5 = turned fs := by simp [pre5, ordL, turned]
theorem pre5_succ (fs : List Fld) {k : Nat} (h : k < 5) : pre5 fs (k + 1) = pre5 fs k ++ sel (ordL.getD k 0) fs := by
  rcases (show k = 0 ∨ k = 1 ∨ k = 2 ∨ k = 3 ∨ k = 4 by omega) with rfl | rfl | rfl | rfl | rfl <;> simp [pre5, ordL]
theorem pre5_le (fs : List Fld) {k : Nat} (h : k ≤ 5) : (pre5 fs k).length ≤ k * fs.length := by
  induction k with
  | zero => simp [pre5]
  | succ k ih =>
    rw [pre5_succ fs (by omega), List.length_append, Nat.succ_mul]
    have := ih (by omega)
    have := sel_len (ordL.getD k 0) fs
    omega
theorem pre5_le5 (fs : List Fld) {k : Nat} (h : k ≤ 5) : (pre5 fs k).length ≤ 5 * fs.length := Nat.le_trans (pre5_le fs h) (Nat.mul_le_mul_right _ h)
theorem HRow.past {w w' : World} {base n m : Nat} {e : TypeId} {v : Value} {ds : List Dat} (h : HRow w base e n v m ds) (hb : Below w.heap.size w w') : HRow w' base e n v m ds :=
  h.grown (row := none) ⟨hb.os, hb.tape, hb.output, hb.size, fun k hk _ => hb.block k hk⟩ (fun k hk => by cases hk)
def TRel (fs : List Fld) (W5 : World) (out i : Value) (wr : World) : Prop :=
  ∃ k : Nat, k ≤ 5 ∧ i = .int .i64 (k : Int) ∧ HRow wr 0 102 4 out (pre5 fs k).length ((pre5 fs k).flatMap datFd) ∧ (∀ g, out.ownBlock = some g → W5.heap.size ≤ g) ∧ Below W5.heap.size W5 wr
theorem ord_cells (w : World) (g : Nat) (hb : Blk w g 3 #[.int .i64 12, .int .i64 11, .int .i64 5, .int .i64 2, .int .i64 1]) {k : Nat} (h : k < 5) : w.cell? ⟨g, k, none⟩ = some (.int .i64 (ordL.getD k 0)) := by
  rw [hb.cell k]
  rcases (show k = 0 ∨ k = 1 ∨ k = 2 ∨ k = 3 ∨ k = 4 by omega) with rfl | rfl | rfl | rfl | rfl <;> rfl
end Go.Proofs.Ytlhpmlknmgocoaa
