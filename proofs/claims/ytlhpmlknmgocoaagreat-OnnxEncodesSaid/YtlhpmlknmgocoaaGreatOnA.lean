/- The reader's small methods: what is noted, and what is read. -/
import Derived.Test.YtlhpmlknmgocoaaGreatOnP
namespace Go.Proofs.YtlhpmlknmgocoaaGreat
set_option linter.unusedSimpArgs false
set_option linter.unusedVariables false
open Go.RowKit

/-! ### worlds -/
theorem grown_trans {a b c : World} {row : Option Nat} (h : a.grownBy b row) (k : b.grownBy c row) : a.grownBy c row :=
  ⟨k.os.trans h.os, k.tape.trans h.tape, k.output.trans h.output, Nat.le_trans h.size k.size, fun i hi hr => (k.block i (Nat.lt_of_lt_of_le hi h.size) hr).trans (h.block i hi hr)⟩
theorem grown_past {w w' : World} (h : Below w.heap.size w w') (row : Option Nat) : w.grownBy w' row := ⟨h.os, h.tape, h.output, h.size, fun k hk _ => h.block k hk⟩
theorem grown_set (w : World) (g i : Nat) (u : Value) : w.grownBy (w.setCell ⟨g, i, none⟩ u) (some g) :=
  ⟨rfl, rfl, rfl, by simp [World.setCell], fun k _ hr => Below.heap_setCell w _ u k (fun e => hr (by rw [e]))⟩
theorem grown_under {w w' : World} {g B : Nat} (h : w.grownBy w' (some g)) (hB : B ≤ w.heap.size) (hg : B ≤ g) : Below B w w' :=
  ⟨h.os, h.tape, h.output, h.size, fun k hk => h.block k (by omega) (by simp; omega)⟩

/-! ### the reader -/
def RdB (w : World) (g : Nat) (f : Fl) : Prop := Blk w g 83 #[.bool f.bad, .bool f.strange, .bool f.many]
section
variable {w w' : World} {g : Nat} {f : Fl}
theorem RdB.set0 (h : RdB w g f) (b : Bool) : RdB (w.setCell ⟨g, 0, none⟩ (.bool b)) g ⟨b, f.strange, f.many⟩ := by
  have := h.set_ 0 (.bool b)
  simpa [RdB] using this
theorem RdB.set1 (h : RdB w g f) (b : Bool) : RdB (w.setCell ⟨g, 1, none⟩ (.bool b)) g ⟨f.bad, b, f.many⟩ := by
  have := h.set_ 1 (.bool b)
  simpa [RdB] using this
theorem RdB.set2 (h : RdB w g f) (b : Bool) : RdB (w.setCell ⟨g, 2, none⟩ (.bool b)) g ⟨f.bad, f.strange, b⟩ := by
  have := h.set_ 2 (.bool b)
  simpa [RdB] using this
theorem RdB.past (h : RdB w g f) (hb : Below w.heap.size w w') : RdB w' g f := Blk.below h hb h.lt
theorem RdB.grown0 (h : RdB w g f) (hg : w.grownBy w' none) : RdB w' g f := Blk.grown h hg (by simp)
theorem RdB.alloc (h : RdB w g f) (o : Obj) : RdB (w.alloc o) g f := Blk.alloc h o
/-- the cells, and that they may be written -/
theorem RdB.cells (h : RdB w g f) : w.cell? ⟨g, 0, none⟩ = some (.bool f.bad) ∧ w.cell? ⟨g, 1, none⟩ = some (.bool f.strange) ∧ w.cell? ⟨g, 2, none⟩ = some (.bool f.many) ∧
    w.frozen? ⟨g, 0, none⟩ = false ∧ w.frozen? ⟨g, 1, none⟩ = false ∧ w.frozen? ⟨g, 2, none⟩ = false ∧ g < w.heap.size :=
  ⟨h.cell 0, h.cell 1, h.cell 2, h.frozen 0, h.frozen 1, h.frozen 2, h.lt⟩
end

/-- a call that only notes f -/
def Noted (w : World) (g : Nat) (f : Fl) (e : Ending) (w' : World) : Prop := e = .returned (.tuple #[]) ∧ RdB w' g f ∧ w.grownBy w' (some g)
theorem Noted.mk0 {w : World} {g : Nat} {f f' : Fl} {b : Bool} (h : RdB w g f) (e : (⟨b, f.strange, f.many⟩ : Fl) = f') : Noted w g f' (.returned (.tuple #[])) (w.setCell ⟨g, 0, none⟩ (.bool b)) :=
  ⟨rfl, e ▸ h.set0 b, grown_set _ _ _ _⟩

theorem no_any (g : Nat) (f : Fl) (er : Int) (w : World) (hk : RdB w g f) :
    Calls Tryz.prog 62 #[.pointer (some ⟨g, 0, none⟩), .int .i64 er] w (Noted w g (f.or (flb (!decide (er = 0))))) := by
  obtain ⟨c0, c1, c2, z0, z1, z2, hlt⟩ := hk.cells
  have HK := Lib.hid hk
  obtain ⟨b, s, m⟩ := f
  clear hk
  dsimp only at *
  by_cases he : er = 0
  · have he1 : (er != 0) = false := by simp [he]
    have HE := Lib.hid he
    clear he
    cases b
    all_goals
      go_enter Tryz.func62, Tryz.ntmps62
      go_wp2
      go_end0
      exact Noted.mk0 HK.out (by simp [Fl.or, flb, HE.out])
  · have he1 : (er != 0) = true := by simp [he]
    have HE := Lib.hid he
    clear he
    cases b
    all_goals
      go_enter Tryz.func62, Tryz.ntmps62
      go_wp2
      go_end0
      exact Noted.mk0 HK.out (by simp [Fl.or, flb, HE.out])

/-! ### bounds of what is read -/
theorem wrF_bulk {f : Fld} (h : mayF f = true) : f.data.length + 1 ≤ (wrF f).length := by
  obtain ⟨m, -, -, -, hc⟩ := mayF_cases h
  unfold wrF
  have h1 := (vi_len (f.num.toNat * 8 + f.wire.toNat)).2
  have h2 := (vi_len f.data.length).2
  rw [List.length_append]
  rcases hc with ⟨-, hd⟩ | ⟨-, hd⟩ | ⟨-, hd, -⟩ | ⟨hw, -⟩
  · rw [hd]; simp only [List.length_nil]; omega
  · rw [hd]; simp only [List.length_nil]; omega
  · rw [hd]; simp only [List.length_nil]; omega
  · rw [hw, if_neg (by decide), if_neg (by decide), if_neg (by decide), List.length_append]; omega
theorem wr_bulk : ∀ (fs : List Fld), (∀ f ∈ fs, mayF f = true) → bulkF fs ≤ (wr fs).length
  | [], _ => Nat.zero_le _
  | f :: fs, h => by
    have h1 := wrF_bulk (h f (by simp))
    have h2 := wr_bulk fs fun a ha => h a (by simp [ha])
    simp only [bulkF, wr, List.flatMap_cons, List.length_append] at *
    omega
theorem bulk_len : ∀ (fs : List Fld), fs.length ≤ bulkF fs
  | [] => Nat.zero_le _
  | f :: fs => by have := bulk_len fs; simp only [bulkF, List.length_cons]; omega
theorem dFields_len (l : List UInt8) : (dFields l).1.length ≤ 4194304 ∧ bulkF (dFields l).1 ≤ 4194304 ∧ Wf64 (dFields l).1 := by
  unfold dFields
  dsimp only
  generalize hr : readE l = r
  obtain ⟨fs, er⟩ := r
  dsimp only
  by_cases he : er = 0
  · subst he
    obtain ⟨h1, h2, h3⟩ := write_read hr
    have hl : l.length ≤ 4194304 := by
      refine Nat.le_of_not_lt fun h => ?_
      unfold readE at hr
      rw [if_pos h] at hr
      injection hr with h4 h5
      cases h5
    have hm : ∀ f ∈ fs, mayF f = true := by
      unfold writeE at h1
      split at h1
      · rename_i ha
        exact List.all_eq_true.1 ha
      · injection h1 with h4 h5
        cases h5
    have h4 := wr_bulk fs hm
    have h5 := bulk_len fs
    exact ⟨by omega, by omega, fun f hf => ⟨(h3 f hf).1, by have := (h3 f hf).2; omega⟩⟩
  · have hn : fs = [] := by
      unfold readE at hr
      split at hr
      · injection hr with h4 h5
        exact h4.symm
      · split at hr
        · injection hr with h4 h5
          exact h4.symm
        · injection hr with h4 h5
          exact absurd h5.symm he
    subst hn
    exact ⟨by simp, by simp [bulkF], fun f hf => by cases hf⟩

end Go.Proofs.YtlhpmlknmgocoaaGreat
