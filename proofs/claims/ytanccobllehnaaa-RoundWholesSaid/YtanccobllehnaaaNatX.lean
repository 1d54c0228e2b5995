/- A row of noughts, just made. -/
import Derived.Test.YtanccobllehnaaaNatW
namespace Go.Proofs.Ytanccobllehnaaa
open Go.RowKit

theorem ON.make (w : World) {m : Nat} (hm : m ≤ maxLen) : ON (w.alloc (.cells (madeCells #[.int .u32 0] m) 22)) w.heap.size (.slice (some ⟨w.heap.size, 0, none⟩) m m) (List.replicate m 0) := by
  refine ⟨by simp [nums], .inr ⟨w.heap.size, m, madeCells #[.int .u32 0] m, by simp, Nat.le_refl _, heap_alloc_new w _, by simp, hm, by simp [madeCells], ?_⟩⟩
  rw [toList_madeCells_one]
  simp [nums]
theorem run_make_nat (w : World) {m : Nat} (hm : m ≤ 1000000000) : (Instr.makeSlice 51 (.int .i64 (m : Int)) (.int .i64 (m : Int))).run Try.prog w =
    .ok (.slice (some ⟨w.heap.size, 0, none⟩) m m) (w.alloc (.cells (madeCells #[.int .u32 0] m) 22)) := by
  obtain ⟨i0, hi0, hz0, hz1, hz2⟩ := info_parts info_32
  have h := run_make (P := Try.prog) w 51 22 i0 (.int .u32 0) (by kernel_rfl) hi0 hz0 .i64 .i64 (m : Int) (m : Int) (by omega) (Int.le_refl _) (by rw [hz2]; omega) (by omega)
  simpa [hz1, Value.cells] using h
end Go.Proofs.Ytanccobllehnaaa
