/- Words appended to a row of the call's own. -/
import Derived.Test.YtanccobllehnaaaNatC
namespace Go.Proofs.Ytanccobllehnaaa
open Go.RowKit

theorem info_32 : (Try.prog.info? 22).map (fun i => (i.zero, i.size, i.bytes)) = some (some (.int .u32 0), 1, 4) := by kernel_rfl
/-- a row of words of the call's own -/
def ON (w : World) (base : Nat) (v : Value) (l : List Nat) : Prop := w.ownsRow base 22 1 v l.length (nums l)
theorem nums_append (a b : List Nat) : nums (a ++ b) = nums a ++ nums b := List.map_append
theorem ON.nil (w : World) (base : Nat) : ON w base (.slice none 0 0) [] := World.ownsRow_nil w base _ _
theorem ON.alloc {w : World} {base : Nat} {v : Value} {l : List Nat} (h : ON w base v l) (o : Obj) : ON (w.alloc o) base v l := World.ownsRow.alloc h o
theorem ON.form {w : World} {base : Nat} {v : Value} {l : List Nat} (h : ON w base v l) : ∃ A n cap, v = .slice A n cap ∧ Hid (n = l.length) ∧ n ≤ cap ∧ cap ≤ maxLen ∧ WR w w.heap.size A l := by
  have h0 := h
  rcases h.2 with ⟨rfl, hn⟩ | ⟨g, cap, cur, rfl, hb, hg, hnc, hcm, hcs, htake⟩
  · refine ⟨none, 0, 0, rfl, Lib.hid (by omega), by omega, by unfold maxLen; omega, ?_⟩
    rw [List.eq_nil_of_length_eq_zero hn]
    exact Reads.none_
  · exact ⟨_, _, cap, rfl, Lib.hid rfl, hnc, hcm, Reads.of_own h0⟩
theorem ON.grownB {w w' : World} {v : Value} {base : Nat} {l : List Nat} (hown : ON w base v l) (hg : w.grownBy w' v.ownBlock) (hbase : base ≤ w.heap.size) {a : World} {B : Nat} (hB : B ≤ base) (hb : Below B a w) : Below B a w' :=
  hb.grown hg (by omega) (fun k hk => by have := (World.ownsRow.lt hown k hk).1; omega)
theorem append_word
    {ops : Array Oper} {rest : List Oper} {o : Oper} {a : Act} {Q : Exit → Act → World → Prop} {w : World} (hgd : o.guard = none) (s x : Operand)
    (ho : o.op = .call { callee := .builtin .append, args := #[s, x], argTypes := #[51, 51] }) {base : Nat} {v : Value} {l : List Nat} (hown : ON w base v l) (hs : a.eval s = v)
    {n : Int} {g : Nat} (hx : a.eval x = .slice (some ⟨g, 0, none⟩) 1 1) (hgs : g = w.heap.size) (c : Nat) (hc : n = (c : Int)) (hlen : l.length + 1 ≤ 17592186044416) (hbase : base ≤ w.heap.size)
    (h : ∀ v' w', ON w' base v' (l ++ [c]) → w.grownBy w' v.ownBlock → (v'.ownBlock = v.ownBlock ∨ ∃ g, v'.ownBlock = some g ∧ w.heap.size ≤ g) → wpList Try.prog ops Q rest (a.put o.dst v') w') :
    wpList Try.prog ops Q (o :: rest) a (w.alloc (.cells #[.int .u32 n] 22)) := by
  obtain ⟨i0, hi0, hz0, hz1, hz2⟩ := info_parts info_32
  subst hc hgs
  refine wpList_append_any _ hgd s x 51 ho base 22 i0 (.int .u32 0) 1 4 (by kernel_rfl) hi0 hz0 hz1 hz2 rfl (by omega) v l.length (nums l) hs (hown.alloc _) (w.heap.size + 1) _ 1 1
    [.int .u32 c] hx (Reads.new_ w _ _ 1 1 rfl) (by intro u hu; simp at hu; subst hu; rfl) (by unfold maxLen; omega) (fit_small (by have := Nat.mul_le_mul_left (l.length + 1) (show 4 ≤ 8 by decide); omega)) (by simp; omega) ?_
  intro v' w' hown' hg hat
  refine h v' w' ?_ ((World.grownBy_alloc w _ _).trans hg) ?_
  · unfold ON
    rw [nums_append, List.length_append]
    exact hown'
  · rcases hat with e | e
    · exact .inl e
    · exact .inr ⟨_, e, by simp⟩
end Go.Proofs.Ytanccobllehnaaa
