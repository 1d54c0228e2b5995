/- Words for an attribute: blocks of the call's own beside the struct. -/
import Derived.Test.YtlhpmlknmgocoaaGreatOnQ
namespace Go.Proofs.YtlhpmlknmgocoaaGreat
set_option linter.unusedSimpArgs false
set_option linter.unusedVariables false
open Go.RowKit
/-- a block of the call's own beside -/
structure BK (w W : World) (p q x : Nat) (T : TypeId) (cs : Array Value) : Prop where
  b : Blk W x T cs
  lo : w.heap.size ≤ x
  np : x ≠ p
  nq : x ≠ q
section
variable {w W W' : World} {g q p x : Nat} {T T' : TypeId} {f : Fl} {cs cs' qs : Array Value} {d : Dat} {u : Value}
theorem BK.dcall (h : BK w W p q x T cs) (ht : TS w W g q p T' f cs' qs) (hg : W.grownBy W' (some g)) : BK w W' p q x T cs :=
  ⟨h.b.grown hg (fun e => by injection e with e; have := h.lo; have := ht.gw; omega), h.lo, h.np, h.nq⟩
theorem BK.dP (h : BK w W p q x T cs) (i : Nat) (y : Value) : BK w (W.setCell ⟨p, i, none⟩ y) p q x T cs := ⟨h.b.far (by have := h.np; simpa using this) y, h.lo, h.np, h.nq⟩
theorem BK.dQ (h : BK w W p q x T cs) (i : Nat) (y : Value) : BK w (W.setCell ⟨q, i, none⟩ y) p q x T cs := ⟨h.b.far (by have := h.nq; simpa using this) y, h.lo, h.np, h.nq⟩
theorem BK.dG (h : BK w W p q x T cs) (hg : g < w.heap.size) (i : Nat) (y : Value) : BK w (W.setCell ⟨g, i, none⟩ y) p q x T cs := ⟨h.b.far (by have := h.lo; show x ≠ g; omega) y, h.lo, h.np, h.nq⟩
theorem BK.alloc (h : BK w W p q x T cs) (o : Obj) : BK w (W.alloc o) p q x T cs := ⟨h.b.alloc o, h.lo, h.np, h.nq⟩
theorem BK.set_ (h : BK w W p q x T cs) (i : Nat) (y : Value) : BK w (W.setCell ⟨x, i, none⟩ y) p q x T (cs.setIfInBounds i y) := ⟨h.b.set_ i y, h.lo, h.np, h.nq⟩
theorem BK.other (h : BK w W p q x T cs) {z : Nat} (hz : x ≠ z) (i : Nat) (y : Value) : BK w (W.setCell ⟨z, i, none⟩ y) p q x T cs := ⟨h.b.far hz y, h.lo, h.np, h.nq⟩
theorem BK.new (ht : TS w W g q p T' f cs' qs) (T : TypeId) (cs : Array Value) : BK w (W.alloc (.cells cs T)) p q W.heap.size T cs :=
  ⟨Blk.new _ _ _, ht.gr.size, by have := ht.bp.lt; omega, by have := ht.bq.lt; omega⟩
theorem TS.alloc (h : TS w W g q p T' f cs' qs) (o : Obj) : TS w (W.alloc o) g q p T' f cs' qs := h.call (h.k.alloc o) (grown_alloc _ _)
theorem TS.past (h : TS w W g q p T' f cs' qs) (hb : Below W.heap.size W W') : TS w W' g q p T' f cs' qs := h.call (h.k.past hb) (grown_past hb _)
/-- a store into a block beside -/
theorem TS.setX (h : TS w W g q p T' f cs' qs) (hx : BK w W p q x T cs) (i : Nat) (y : Value) : TS w (W.setCell ⟨x, i, none⟩ y) g q p T' f cs' qs :=
  ⟨Blk.far h.k (by have := hx.lo; have := h.gw; show g ≠ x; omega) y, h.bp.far (fun e => hx.np e.symm) y, h.bq.far (fun e => hx.nq e.symm) y, grown_setOwn h.gr hx.lo, h.gw, h.pw, h.qw, h.pq⟩
theorem TS.fin6x {c0 c1 c2 c3 c4 c5 a0 a1 a2 a3 a4 a5 : Value} (h : TS w W g q p T' f cs' qs) (hx : BK w W p q x T #[a0, a1, a2, a3, a4, a5]) : TS w (Proofs.YtlhpmlknmgocoaaGreat.fin6 W x c0 c1 c2 c3 c4 c5) g q p T' f cs' qs ∧ BK w (Proofs.YtlhpmlknmgocoaaGreat.fin6 W x c0 c1 c2 c3 c4 c5) p q x T #[c0, c1, c2, c3, c4, c5] := by
  have b1 := hx.set_ 0 c0
  have b2 := b1.set_ 1 c1
  have b3 := b2.set_ 2 c2
  have b4 := b3.set_ 3 c3
  have b5 := b4.set_ 4 c4
  have b6 := b5.set_ 5 c5
  exact ⟨(((((h.setX hx 0 c0).setX b1 1 c1).setX b2 2 c2).setX b3 3 c3).setX b4 4 c4).setX b5 5 c5, by simpa [Proofs.YtlhpmlknmgocoaaGreat.fin6] using b6⟩
theorem BK.fin6o {z : Nat} {c0 c1 c2 c3 c4 c5 : Value} (h : BK w W p q x T cs) (hz : x ≠ z) : BK w (Proofs.YtlhpmlknmgocoaaGreat.fin6 W z c0 c1 c2 c3 c4 c5) p q x T cs := (((((h.other hz 0 c0).other hz 1 c1).other hz 2 c2).other hz 3 c3).other hz 4 c4).other hz 5 c5
theorem Held.fin6o {z : Nat} {S : Nat → Prop} {c0 c1 c2 c3 c4 c5 : Value} (h : Held W S d u) (hz : ¬ S z) : Held (Proofs.YtlhpmlknmgocoaaGreat.fin6 W z c0 c1 c2 c3 c4 c5) S d u :=
  (((((h.setCell (p := ⟨z, 0, none⟩) hz c0).setCell (p := ⟨z, 1, none⟩) hz c1).setCell (p := ⟨z, 2, none⟩) hz c2).setCell (p := ⟨z, 3, none⟩) hz c3).setCell (p := ⟨z, 4, none⟩) hz c4).setCell (p := ⟨z, 5, none⟩) hz c5
end
def fin12 (W : World) (q : Nat) (c0 c1 c2 c3 c4 c5 c6 c7 c8 c9 c10 c11 : Value) : World := (((((((((((W.setCell ⟨q, 0, none⟩ c0).setCell ⟨q, 1, none⟩ c1).setCell ⟨q, 2, none⟩ c2).setCell ⟨q, 3, none⟩ c3).setCell ⟨q, 4, none⟩ c4).setCell ⟨q, 5, none⟩ c5).setCell ⟨q, 6, none⟩ c6).setCell ⟨q, 7, none⟩ c7).setCell ⟨q, 8, none⟩ c8).setCell ⟨q, 9, none⟩ c9).setCell ⟨q, 10, none⟩ c10).setCell ⟨q, 11, none⟩ c11
section
variable {w W : World} {g q p : Nat} {T : TypeId} {f : Fl} {cs : Array Value} {d : Dat} {u c0 c1 c2 c3 c4 c5 c6 c7 c8 c9 c10 c11 a0 a1 a2 a3 a4 a5 a6 a7 a8 a9 a10 a11 : Value}
theorem TS.fin12 (h : TS w W g q p T f cs #[a0, a1, a2, a3, a4, a5, a6, a7, a8, a9, a10, a11]) : TS w (Proofs.YtlhpmlknmgocoaaGreat.fin12 W q c0 c1 c2 c3 c4 c5 c6 c7 c8 c9 c10 c11) g q p T f cs #[c0, c1, c2, c3, c4, c5, c6, c7, c8, c9, c10, c11] := by
  have h1 := h.setQ 0 c0
  rw [show (#[a0, a1, a2, a3, a4, a5, a6, a7, a8, a9, a10, a11]).setIfInBounds 0 c0 = #[c0, a1, a2, a3, a4, a5, a6, a7, a8, a9, a10, a11] from rfl] at h1
  have h2 := h1.setQ 1 c1
  rw [show (#[c0, a1, a2, a3, a4, a5, a6, a7, a8, a9, a10, a11]).setIfInBounds 1 c1 = #[c0, c1, a2, a3, a4, a5, a6, a7, a8, a9, a10, a11] from rfl] at h2
  have h3 := h2.setQ 2 c2
  rw [show (#[c0, c1, a2, a3, a4, a5, a6, a7, a8, a9, a10, a11]).setIfInBounds 2 c2 = #[c0, c1, c2, a3, a4, a5, a6, a7, a8, a9, a10, a11] from rfl] at h3
  have h4 := h3.setQ 3 c3
  rw [show (#[c0, c1, c2, a3, a4, a5, a6, a7, a8, a9, a10, a11]).setIfInBounds 3 c3 = #[c0, c1, c2, c3, a4, a5, a6, a7, a8, a9, a10, a11] from rfl] at h4
  have h5 := h4.setQ 4 c4
  rw [show (#[c0, c1, c2, c3, a4, a5, a6, a7, a8, a9, a10, a11]).setIfInBounds 4 c4 = #[c0, c1, c2, c3, c4, a5, a6, a7, a8, a9, a10, a11] from rfl] at h5
  have h6 := h5.setQ 5 c5
  rw [show (#[c0, c1, c2, c3, c4, a5, a6, a7, a8, a9, a10, a11]).setIfInBounds 5 c5 = #[c0, c1, c2, c3, c4, c5, a6, a7, a8, a9, a10, a11] from rfl] at h6
  have h7 := h6.setQ 6 c6
  rw [show (#[c0, c1, c2, c3, c4, c5, a6, a7, a8, a9, a10, a11]).setIfInBounds 6 c6 = #[c0, c1, c2, c3, c4, c5, c6, a7, a8, a9, a10, a11] from rfl] at h7
  have h8 := h7.setQ 7 c7
  rw [show (#[c0, c1, c2, c3, c4, c5, c6, a7, a8, a9, a10, a11]).setIfInBounds 7 c7 = #[c0, c1, c2, c3, c4, c5, c6, c7, a8, a9, a10, a11] from rfl] at h8
  have h9 := h8.setQ 8 c8
  rw [show (#[c0, c1, c2, c3, c4, c5, c6, c7, a8, a9, a10, a11]).setIfInBounds 8 c8 = #[c0, c1, c2, c3, c4, c5, c6, c7, c8, a9, a10, a11] from rfl] at h9
  have h10 := h9.setQ 9 c9
  rw [show (#[c0, c1, c2, c3, c4, c5, c6, c7, c8, a9, a10, a11]).setIfInBounds 9 c9 = #[c0, c1, c2, c3, c4, c5, c6, c7, c8, c9, a10, a11] from rfl] at h10
  have h11 := h10.setQ 10 c10
  rw [show (#[c0, c1, c2, c3, c4, c5, c6, c7, c8, c9, a10, a11]).setIfInBounds 10 c10 = #[c0, c1, c2, c3, c4, c5, c6, c7, c8, c9, c10, a11] from rfl] at h11
  have h12 := h11.setQ 11 c11
  rw [show (#[c0, c1, c2, c3, c4, c5, c6, c7, c8, c9, c10, a11]).setIfInBounds 11 c11 = #[c0, c1, c2, c3, c4, c5, c6, c7, c8, c9, c10, c11] from rfl] at h12
  exact h12
theorem Held.fin12 (h : Held W (DT w p q) d u) : Held (Proofs.YtlhpmlknmgocoaaGreat.fin12 W q c0 c1 c2 c3 c4 c5 c6 c7 c8 c9 c10 c11) (DT w p q) d u := by
  have h1 := h.dQ 0 c0
  have h2 := h1.dQ 1 c1
  have h3 := h2.dQ 2 c2
  have h4 := h3.dQ 3 c3
  have h5 := h4.dQ 4 c4
  have h6 := h5.dQ 5 c5
  have h7 := h6.dQ 6 c6
  have h8 := h7.dQ 7 c7
  have h9 := h8.dQ 8 c8
  have h10 := h9.dQ 9 c9
  have h11 := h10.dQ 10 c10
  have h12 := h11.dQ 11 c11
  exact h12
end
end Go.Proofs.YtlhpmlknmgocoaaGreat
