/- A method of the reader that builds a struct: what it holds meanwhile. -/
import Derived.Test.YtlhpmlknmgocoaaGreatOnG
import Derived.Deep.DeepCutAuto
namespace Go.Proofs.YtlhpmlknmgocoaaGreat
set_option linter.unusedSimpArgs false
set_option linter.unusedVariables false
open Go.RowKit

instance : Std.Associative Fl.or := ⟨Fl.or_assoc⟩
instance : Std.Commutative Fl.or := ⟨Fl.or_comm⟩
theorem Held.lt {w : World} {S : Nat → Prop} {d : Dat} {v : Value} (h : Held w S d v) : Held w (fun b => S b ∧ b < w.heap.size) d v := by
  induction h with
  | leaf v => exact .leaf v
  | row n ds A m c us hl hu hc hm hb ha hd ih =>
    refine .row n ds A m c us hl hu hc hm hb (fun h0 => ?_) ih
    obtain ⟨ad, e, hs, hcell⟩ := ha h0
    refine ⟨ad, e, ⟨hs, ?_⟩, hcell⟩
    have := World.block_lt_of_cell? w _ (hcell 0 _ (List.getElem?_eq_getElem (by omega)))
    rwa [block_of_add] at this
/-- blocks made since w, but for two -/
def DT (w : World) (p q : Nat) : Nat → Prop := fun b => w.heap.size ≤ b ∧ b ≠ p ∧ b ≠ q
structure TS (w W : World) (g q p : Nat) (T : TypeId) (f : Fl) (cs qs : Array Value) : Prop where
  k : RdB W g f
  bp : Blk W p T cs
  bq : Blk W q T qs
  gr : w.grownBy W (some g)
  gw : g < w.heap.size
  pw : w.heap.size ≤ p
  qw : w.heap.size ≤ q
  pq : p ≠ q
section
variable {w W W' : World} {g q p : Nat} {T : TypeId} {f f' : Fl} {cs qs : Array Value} {d : Dat} {u : Value}
theorem TS.call (h : TS w W g q p T f cs qs) (hk : RdB W' g f') (hg : W.grownBy W' (some g)) : TS w W' g q p T f' cs qs :=
  ⟨hk, h.bp.grown hg (fun e => by injection e with e; have := h.pw; have := h.gw; omega), h.bq.grown hg (fun e => by injection e with e; have := h.qw; have := h.gw; omega), grown_trans h.gr hg, h.gw, h.pw, h.qw, h.pq⟩
theorem grown_setOwn {w W : World} {g p i : Nat} {u : Value} (h : w.grownBy W (some g)) (hp : w.heap.size ≤ p) : w.grownBy (W.setCell ⟨p, i, none⟩ u) (some g) :=
  ⟨h.os, h.tape, h.output, by simpa [World.setCell] using h.size, fun k hk hr => (Below.heap_setCell W ⟨p, i, none⟩ u k (by simp; omega)).trans (h.block k hk hr)⟩
theorem TS.setP (h : TS w W g q p T f cs qs) (i : Nat) (x : Value) : TS w (W.setCell ⟨p, i, none⟩ x) g q p T f (cs.setIfInBounds i x) qs :=
  ⟨Blk.far h.k (by have := h.pw; have := h.gw; simp; omega) x, h.bp.set_ i x, h.bq.far (by have := h.pq; simp; omega) x, grown_setOwn h.gr h.pw, h.gw, h.pw, h.qw, h.pq⟩
theorem TS.setQ (h : TS w W g q p T f cs qs) (i : Nat) (x : Value) : TS w (W.setCell ⟨q, i, none⟩ x) g q p T f cs (qs.setIfInBounds i x) :=
  ⟨Blk.far h.k (by have := h.qw; have := h.gw; simp; omega) x, h.bp.far (by have := h.pq; simp; omega) x, h.bq.set_ i x, grown_setOwn h.gr h.qw, h.gw, h.pw, h.qw, h.pq⟩
theorem TS.note (h : TS w W g q p T f cs qs) {i : Nat} {x : Value} (hk : RdB (W.setCell ⟨g, i, none⟩ x) g f') : TS w (W.setCell ⟨g, i, none⟩ x) g q p T f' cs qs := h.call hk (grown_set _ _ _ _)
theorem TS.or0 (h : TS w W g q p T f cs qs) (c : Bool) {b : Bool} (hb : b = (f.bad || c)) : TS w (W.setCell ⟨g, 0, none⟩ (.bool b)) g q p T (f.or (flb c)) cs qs := h.note (h.k.or0 c hb)
theorem TS.or1 (h : TS w W g q p T f cs qs) (c : Bool) {b : Bool} (hb : b = (f.strange || c)) : TS w (W.setCell ⟨g, 1, none⟩ (.bool b)) g q p T (f.or ⟨false, c, false⟩) cs qs := h.note (h.k.or1 c hb)
theorem TS.or2 (h : TS w W g q p T f cs qs) (c : Bool) {b : Bool} (hb : b = (f.many || c)) : TS w (W.setCell ⟨g, 2, none⟩ (.bool b)) g q p T (f.or ⟨false, false, c⟩) cs qs := h.note (h.k.or2 c hb)
/-- where a method that has laid its result's cells, and read the fields, lays its own struct -/
theorem TS.start {w W2 : World} {g : Nat} {q : Nat} {T : TypeId} {f' : Fl} {cs qs : Array Value} (hg : g < w.heap.size) (hq : q = w.heap.size) (h1 : (w.alloc (.cells qs T)).grownBy W2 (some g)) (hk : RdB W2 g f') :
    TS w (W2.alloc (.cells cs T)) g q W2.heap.size T f' cs qs := by
  subst hq
  have hz := h1.size
  simp at hz
  exact ⟨hk.alloc _, Blk.new _ _ _, ((Blk.new w T qs).grown h1 (fun e => by injection e with e; omega)).alloc _, grown_trans (grown_trans (grown_alloc _ _) h1) (grown_alloc _ _), hg, by omega, Nat.le_refl _, by omega⟩
/-- data meanwhile -/
theorem Held.dt (h : Held W' (Inb W.heap.size W'.heap.size) d u) (ht : TS w W g q p T f cs qs) : Held W' (DT w p q) d u :=
  h.mono fun b hb => ⟨Nat.le_trans ht.gr.size hb.1, fun e => by have := ht.bp.lt; have := hb.1; omega, fun e => by have := ht.bq.lt; have := hb.1; omega⟩
theorem Held.dcall (h : Held W (DT w p q) d u) (ht : TS w W g q p T f cs qs) (hg : W.grownBy W' (some g)) : Held W' (DT w p q) d u :=
  h.rd (fun h => by have := h.1; have := ht.gw; omega) hg
theorem Held.dP (h : Held W (DT w p q) d u) (i : Nat) (x : Value) : Held (W.setCell ⟨p, i, none⟩ x) (DT w p q) d u := h.setCell (fun h => h.2.1 rfl) x
theorem Held.dQ (h : Held W (DT w p q) d u) (i : Nat) (x : Value) : Held (W.setCell ⟨q, i, none⟩ x) (DT w p q) d u := h.setCell (fun h => h.2.2 rfl) x
theorem Held.dG (h : Held W (DT w p q) d u) (hg : g < w.heap.size) (i : Nat) (x : Value) : Held (W.setCell ⟨g, i, none⟩ x) (DT w p q) d u := h.setCell (p := ⟨g, i, none⟩) (fun h => by have h1 : w.heap.size ≤ g := h.1; omega) x
theorem Held.done (h : Held W (DT w p q) d u) : Held W (Inb w.heap.size W.heap.size) d u := h.lt.mono fun b hb => ⟨hb.1.1, hb.2⟩
theorem TS.flags (h : TS w W g q p T f cs qs) : W.cell? ⟨g, 0, none⟩ = some (.bool f.bad) ∧ W.cell? ⟨g, 1, none⟩ = some (.bool f.strange) ∧ W.cell? ⟨g, 2, none⟩ = some (.bool f.many) ∧
    W.frozen? ⟨g, 0, none⟩ = false ∧ W.frozen? ⟨g, 1, none⟩ = false ∧ W.frozen? ⟨g, 2, none⟩ = false ∧ g < W.heap.size := h.k.cells
theorem TS.fl (h : TS w W g q p T f cs qs) : ∃ b0 b1 b2, Hid (f.bad = b0) ∧ Hid (f.strange = b1) ∧ Hid (f.many = b2) ∧ W.cell? ⟨g, 0, none⟩ = some (.bool b0) ∧ W.cell? ⟨g, 1, none⟩ = some (.bool b1) ∧ W.cell? ⟨g, 2, none⟩ = some (.bool b2) ∧
    W.frozen? ⟨g, 0, none⟩ = false ∧ W.frozen? ⟨g, 1, none⟩ = false ∧ W.frozen? ⟨g, 2, none⟩ = false ∧ g < W.heap.size :=
  ⟨_, _, _, Lib.hid rfl, Lib.hid rfl, Lib.hid rfl, h.flags⟩
end
theorem blkc3 {w : World} {g : Nat} {t : TypeId} {c0 c1 c2 : Value} (h : Blk w g t #[c0, c1, c2]) :
    w.cell? ⟨g, 0, none⟩ = some c0 ∧ w.cell? ⟨g, 1, none⟩ = some c1 ∧ w.cell? ⟨g, 2, none⟩ = some c2 ∧ w.frozen? ⟨g, 0, none⟩ = false ∧ w.frozen? ⟨g, 1, none⟩ = false ∧ w.frozen? ⟨g, 2, none⟩ = false ∧ g < w.heap.size :=
  ⟨h.cell 0, h.cell 1, h.cell 2, h.frozen 0, h.frozen 1, h.frozen 2, h.lt⟩
theorem blkc5 {w : World} {g : Nat} {t : TypeId} {c0 c1 c2 c3 c4 : Value} (h : Blk w g t #[c0, c1, c2, c3, c4]) :
    w.cell? ⟨g, 0, none⟩ = some c0 ∧ w.cell? ⟨g, 1, none⟩ = some c1 ∧ w.cell? ⟨g, 2, none⟩ = some c2 ∧ w.cell? ⟨g, 3, none⟩ = some c3 ∧ w.cell? ⟨g, 4, none⟩ = some c4 ∧ w.frozen? ⟨g, 0, none⟩ = false ∧ w.frozen? ⟨g, 1, none⟩ = false ∧ w.frozen? ⟨g, 2, none⟩ = false ∧ w.frozen? ⟨g, 3, none⟩ = false ∧ w.frozen? ⟨g, 4, none⟩ = false ∧ g < w.heap.size :=
  ⟨h.cell 0, h.cell 1, h.cell 2, h.cell 3, h.cell 4, h.frozen 0, h.frozen 1, h.frozen 2, h.frozen 3, h.frozen 4, h.lt⟩
theorem blkc6 {w : World} {g : Nat} {t : TypeId} {c0 c1 c2 c3 c4 c5 : Value} (h : Blk w g t #[c0, c1, c2, c3, c4, c5]) :
    w.cell? ⟨g, 0, none⟩ = some c0 ∧ w.cell? ⟨g, 1, none⟩ = some c1 ∧ w.cell? ⟨g, 2, none⟩ = some c2 ∧ w.cell? ⟨g, 3, none⟩ = some c3 ∧ w.cell? ⟨g, 4, none⟩ = some c4 ∧ w.cell? ⟨g, 5, none⟩ = some c5 ∧ w.frozen? ⟨g, 0, none⟩ = false ∧ w.frozen? ⟨g, 1, none⟩ = false ∧ w.frozen? ⟨g, 2, none⟩ = false ∧ w.frozen? ⟨g, 3, none⟩ = false ∧ w.frozen? ⟨g, 4, none⟩ = false ∧ w.frozen? ⟨g, 5, none⟩ = false ∧ g < w.heap.size :=
  ⟨h.cell 0, h.cell 1, h.cell 2, h.cell 3, h.cell 4, h.cell 5, h.frozen 0, h.frozen 1, h.frozen 2, h.frozen 3, h.frozen 4, h.frozen 5, h.lt⟩
theorem blkc12 {w : World} {g : Nat} {t : TypeId} {c0 c1 c2 c3 c4 c5 c6 c7 c8 c9 c10 c11 : Value} (h : Blk w g t #[c0, c1, c2, c3, c4, c5, c6, c7, c8, c9, c10, c11]) :
    w.cell? ⟨g, 0, none⟩ = some c0 ∧ w.cell? ⟨g, 1, none⟩ = some c1 ∧ w.cell? ⟨g, 2, none⟩ = some c2 ∧ w.cell? ⟨g, 3, none⟩ = some c3 ∧ w.cell? ⟨g, 4, none⟩ = some c4 ∧ w.cell? ⟨g, 5, none⟩ = some c5 ∧ w.cell? ⟨g, 6, none⟩ = some c6 ∧ w.cell? ⟨g, 7, none⟩ = some c7 ∧ w.cell? ⟨g, 8, none⟩ = some c8 ∧ w.cell? ⟨g, 9, none⟩ = some c9 ∧ w.cell? ⟨g, 10, none⟩ = some c10 ∧ w.cell? ⟨g, 11, none⟩ = some c11 ∧ w.frozen? ⟨g, 0, none⟩ = false ∧ w.frozen? ⟨g, 1, none⟩ = false ∧ w.frozen? ⟨g, 2, none⟩ = false ∧ w.frozen? ⟨g, 3, none⟩ = false ∧ w.frozen? ⟨g, 4, none⟩ = false ∧ w.frozen? ⟨g, 5, none⟩ = false ∧ w.frozen? ⟨g, 6, none⟩ = false ∧ w.frozen? ⟨g, 7, none⟩ = false ∧ w.frozen? ⟨g, 8, none⟩ = false ∧ w.frozen? ⟨g, 9, none⟩ = false ∧ w.frozen? ⟨g, 10, none⟩ = false ∧ w.frozen? ⟨g, 11, none⟩ = false ∧ g < w.heap.size :=
  ⟨h.cell 0, h.cell 1, h.cell 2, h.cell 3, h.cell 4, h.cell 5, h.cell 6, h.cell 7, h.cell 8, h.cell 9, h.cell 10, h.cell 11, h.frozen 0, h.frozen 1, h.frozen 2, h.frozen 3, h.frozen 4, h.frozen 5, h.frozen 6, h.frozen 7, h.frozen 8, h.frozen 9, h.frozen 10, h.frozen 11, h.lt⟩
/-- a struct stored over a block of six cells -/
def fin6 (W : World) (q : Nat) (c0 c1 c2 c3 c4 c5 : Value) : World := (((((W.setCell ⟨q, 0, none⟩ c0).setCell ⟨q, 1, none⟩ c1).setCell ⟨q, 2, none⟩ c2).setCell ⟨q, 3, none⟩ c3).setCell ⟨q, 4, none⟩ c4).setCell ⟨q, 5, none⟩ c5
section
variable {w W : World} {g q p : Nat} {T : TypeId} {f : Fl} {cs : Array Value} {d : Dat} {u c0 c1 c2 c3 c4 c5 a0 a1 a2 a3 a4 a5 : Value}
theorem TS.fin6 (h : TS w W g q p T f cs #[a0, a1, a2, a3, a4, a5]) : TS w (fin6 W q c0 c1 c2 c3 c4 c5) g q p T f cs #[c0, c1, c2, c3, c4, c5] := by
  have := (((((h.setQ 0 c0).setQ 1 c1).setQ 2 c2).setQ 3 c3).setQ 4 c4).setQ 5 c5
  simpa [Proofs.YtlhpmlknmgocoaaGreat.fin6] using this
theorem Held.fin6 (h : Held W (DT w p q) d u) : Held (fin6 W q c0 c1 c2 c3 c4 c5) (DT w p q) d u := (((((h.dQ 0 c0).dQ 1 c1).dQ 2 c2).dQ 3 c3).dQ 4 c4).dQ 5 c5
theorem TS.raw {W' : World} {cs' qs : Array Value} (h : TS w W g q p T f cs qs) (hb : Blk W' p T cs') (hg : W.grownBy W' (some p)) : TS w W' g q p T f cs' qs :=
  ⟨Blk.grown h.k hg (fun e => by injection e with e; have := h.pw; have := h.gw; omega), hb, h.bq.grown hg (fun e => by injection e with e; have := h.pq; omega),
    ⟨hg.os.trans h.gr.os, hg.tape.trans h.gr.tape, hg.output.trans h.gr.output, Nat.le_trans h.gr.size hg.size, fun i hi hr => (hg.block i (Nat.lt_of_lt_of_le hi h.gr.size) (fun e => by injection e with e; have := h.pw; omega)).trans (h.gr.block i hi hr)⟩, h.gw, h.pw, h.qw, h.pq⟩
theorem Held.draw {W' : World} (h : Held W (DT w p q) d u) (hg : W.grownBy W' (some p)) : Held W' (DT w p q) d u := h.rd (fun h => h.2.1 rfl) hg
end
theorem TS.row {w W W' : World} {g q p : Nat} {T : TypeId} {f : Fl} {cs qs : Array Value} {row : Option Nat} (h : TS w W g q p T f cs qs) (hg : W.grownBy W' row) (hr : ∀ k, row = some k → w.heap.size ≤ k ∧ k ≠ p ∧ k ≠ q) : TS w W' g q p T f cs qs :=
  ⟨Blk.grown h.k hg (fun e => by have := (hr g e.symm).1; have := h.gw; omega), h.bp.grown hg (fun e => (hr p e.symm).2.1 rfl), h.bq.grown hg (fun e => (hr q e.symm).2.2 rfl),
    ⟨hg.os.trans h.gr.os, hg.tape.trans h.gr.tape, hg.output.trans h.gr.output, Nat.le_trans h.gr.size hg.size, fun i hi he => (hg.block i (Nat.lt_of_lt_of_le hi h.gr.size) (fun e => by have := (hr i e.symm).1; omega)).trans (h.gr.block i hi he)⟩, h.gw, h.pw, h.qw, h.pq⟩
theorem HRow.size9 {w : World} {base n m : Nat} {e : TypeId} {v : Value} {ds : List Dat} (h : HRow w base e n v m ds) (hm : 0 < m) : base < w.heap.size := by
  obtain ⟨us, h1, h2, h3⟩ := h
  rcases h2.2 with ⟨rfl, hn⟩ | ⟨g, cap, cur, rfl, hb, hg, -⟩
  · omega
  · have := (Array.getElem?_eq_some_iff.1 hg).1
    omega
theorem dInts_len {fs : List Fld} (hm : Sm fs) (num : Int) : (dInts fs num).1.length ≤ 4194304 := by
  have h9 := hm.2.1
  simp only [dInts]
  cases h : ints num fs with
  | none => simp
  | some l => have := ints_len h; simp; omega
theorem dFloats_len {fs : List Fld} (hm : Sm fs) (num : Int) : (dFloats fs num).1.length ≤ 4194304 := by
  have h9 := hm.2.1
  simp only [dFloats]
  cases h : gat (fixs1 num) fs with
  | none => simp
  | some l => have := (fixs_all h).2; simp; omega
theorem dList_len {α : Type} {R : List UInt8 → α × Fl} {fs : List Fld} {num : Int} {most : Nat} (hm : Sm fs) : (dList R fs num most).1.length ≤ 4194304 := by
  simp only [dList, List.length_map]
  have := sel_len num fs
  have := hm.1
  omega
theorem row_ones {α : Type} (D : α → Dat) (l : List α) : (l.flatMap fun x => [D x]) = l.map D := by
  induction l with
  | nil => rfl
  | cons x l ih => simp [ih]

/-! the flags of a tensor, plain -/
def tenFl (l : List Fld) : Fl :=
  (dText l 8 256).2.or <| (dInts l 1).2.or <| (dDims (dInts l 1).1).2.or <| (dNum l 2).2.or <| (dNum l 14).2.or <| (dList dZero l 3 l.length).2.or <|
    Fl.or ⟨decide ((dNum l 2).1.1 = 0), (!decide ((dNum l 2).1.1 = 0) && !knownP (dNum l 2).1.1) || !decide ((dNum l 14).1.1 = 0) || !(dList dZero l 3 l.length).1.isEmpty, false⟩ <| (dFloats l 4).2.or <| (dInts l 5).2.or <| (dInts l 7).2.or (dList dRaw l 9 l.length).2
def tenSum (l : List Fld) : Nat := (dFloats l 4).1.length + (dInts l 5).1.length + (dInts l 7).1.length
theorem dTenL_out {l : List Fld} (h : (!decide ((cnt (dInts l 1).1).2 = 0) || !knownP (dNum l 2).1.1) = true) : dTenL l = (⟨(dText l 8 256).1, ⟨0, (dInts l 1).1, [], [], []⟩⟩, tenFl l) := by
  unfold dTenL
  dsimp only [dDims]
  rw [if_pos h]
  rfl
theorem i64_eq (x : Int64) (n : Int) (m : Int64) (h : m.toInt = n) : (x = m) ↔ (x.toInt = n) := by
  rw [← h, Int64.toInt_inj]
theorem knownP_int (x : Int64) : knownP x = knownI x.toInt := by
  unfold knownP knownI
  rw [decide_eq_decide.2 (i64_eq x 1 1 rfl), decide_eq_decide.2 (i64_eq x 7 7 rfl), decide_eq_decide.2 (i64_eq x 9 9 rfl)]
theorem tenFl_eq {f fl1 : Fl} {l : List Fld} {ki pl : Int} {np : Nat} {cz c1 c2 c3 c4 : Bool} (hki : (dNum l 2).1.1.toInt = ki) (hpl : (dNum l 14).1.1.toInt = pl) (hnp : (dList dZero l 3 l.length).1.length = np)
    (hcz : (ki == 0) = cz) (hc1 : (ki != 0) = c1) (hc2 : knownI ki = c2) (hc3 : (pl != 0) = c3) (hc4 : decide (0 < np) = c4) :
    ((((((((((((f.or fl1).or (dText l 8 256).2).or (dInts l 1).2).or (dDims (dInts l 1).1).2).or (dNum l 2).2).or (dNum l 14).2).or (dList dZero l 3 l.length).2).or (flb cz)).or ⟨false, (c1 && !c2) || c3 || c4, false⟩).or (dFloats l 4).2).or (dInts l 5).2).or (dInts l 7).2).or (dList dRaw l 9 l.length).2 = f.or (fl1.or (tenFl l)) := by
  have e0 : decide ((dNum l 2).1.1 = 0) = cz := by
    rw [← hcz, ← hki, decide_eq_decide.2 (i64_eq _ 0 0 rfl)]; rfl
  have e1 : (!decide ((dNum l 2).1.1 = 0)) = c1 := by rw [e0, ← hcz, ← hc1]; rfl
  have e2 : knownP (dNum l 2).1.1 = c2 := by rw [knownP_int, hki, hc2]
  have e3 : (!decide ((dNum l 14).1.1 = 0)) = c3 := by
    rw [decide_eq_decide.2 (i64_eq _ 0 0 rfl), ← hc3, ← hpl]; rfl
  have e4 : (!(dList dZero l 3 l.length).1.isEmpty) = c4 := by
    rw [← hc4, ← hnp]
    cases (dList dZero l 3 l.length).1 <;> simp
  unfold tenFl
  rw [e1, e2, e3, e4, e0]
  generalize (dText l 8 256).2 = a1
  generalize (dInts l 1).2 = a2
  generalize (dDims (dInts l 1).1).2 = a3
  generalize (dNum l 2).2 = a4
  generalize (dNum l 14).2 = a5
  generalize (dList dZero l 3 l.length).2 = a6
  generalize (dFloats l 4).2 = a7
  generalize (dInts l 5).2 = a8
  generalize (dInts l 7).2 = a9
  generalize (dList dRaw l 9 l.length).2 = a10
  generalize ((c1 && !c2) || c3 || c4) = s
  rw [show (⟨cz, s, false⟩ : Fl) = (flb cz).or ⟨false, s, false⟩ by simp [Fl.or, flb]]
  ac_rfl

theorem TS.to {w W : World} {g q p : Nat} {T : TypeId} {f f' : Fl} {cs qs : Array Value} (h : TS w W g q p T f cs qs) (e : f = f') : TS w W g q p T f' cs qs := e ▸ h
theorem dTensor_at {b : List UInt8} {fs : List Fld} {fl1 : Fl} {r : Ini × Fl} (h : dFields b = (fs, fl1)) (hr : dTenL fs = r) : dTensor b = (r.1, fl1.or r.2) := by
  unfold dTensor
  rw [h, ← hr]
/-- a tensor's raw bytes -/
theorem dTenL_raw {l : List Fld} (h : (!decide ((cnt (dInts l 1).1).2 = 0) || !knownP (dNum l 2).1.1) = false) (hr : (dList dRaw l 9 l.length).1.isEmpty = false) :
    dTenL l = if 0 < tenSum l then (⟨(dText l 8 256).1, ⟨(dNum l 2).1.1, (dInts l 1).1, [], [], []⟩⟩, (tenFl l).or (flb true))
      else (⟨(dText l 8 256).1, (rawP (dNum l 2).1.1 (dInts l 1).1 (cnt (dInts l 1).1).1.toNat ((dList dRaw l 9 l.length).1.getLast?.getD [])).1⟩, (tenFl l).or (flb (!(rawP (dNum l 2).1.1 (dInts l 1).1 (cnt (dInts l 1).1).1.toNat ((dList dRaw l 9 l.length).1.getLast?.getD [])).2))) := by
  unfold dTenL
  dsimp only [dDims]
  rw [h, hr, if_neg (by decide), if_neg (by decide)]
  rfl
theorem dTenL_own {l : List Fld} (h : (!decide ((cnt (dInts l 1).1).2 = 0) || !knownP (dNum l 2).1.1) = false) (hr : (dList dRaw l 9 l.length).1.isEmpty = true) :
    dTenL l = if (dNum l 2).1.1 = 1 then (⟨(dText l 8 256).1, ⟨(dNum l 2).1.1, (dInts l 1).1, (dFloats l 4).1, [], []⟩⟩, (tenFl l).or (flb (!decide ((tenSum l : Int) = (cnt (dInts l 1).1).1) || !decide (((dFloats l 4).1.length : Int) = (cnt (dInts l 1).1).1))))
      else if (dNum l 2).1.1 = 7 then (⟨(dText l 8 256).1, ⟨(dNum l 2).1.1, (dInts l 1).1, [], (dInts l 7).1, []⟩⟩, (tenFl l).or (flb (!decide ((tenSum l : Int) = (cnt (dInts l 1).1).1) || !decide (((dInts l 7).1.length : Int) = (cnt (dInts l 1).1).1))))
      else (⟨(dText l 8 256).1, ⟨(dNum l 2).1.1, (dInts l 1).1, [], [], (dInts l 5).1.map fun x => decide (x = 1)⟩⟩, (tenFl l).or (flb (!decide ((tenSum l : Int) = (cnt (dInts l 1).1).1) || !decide (((dInts l 5).1.length : Int) = (cnt (dInts l 1).1).1) || (dInts l 5).1.any fun x => !decide (x = 0) && !decide (x = 1)))) := by
  unfold dTenL
  dsimp only [dDims]
  rw [h, hr, if_neg (by decide), if_pos rfl]
  rfl
theorem rawP_shape (ty : Int64) (dims : List Int64) (n : Nat) (b : List UInt8) : (rawP ty dims n b).1.ty = ty ∧ (rawP ty dims n b).1.dims = dims := by
  unfold rawP
  split
  · exact ⟨rfl, rfl⟩
  · split
    · exact ⟨rfl, rfl⟩
    · split
      · exact ⟨rfl, rfl⟩
      · exact ⟨rfl, rfl⟩
theorem dRaw_len {fs : List Fld} {num : Int} {most : Nat} (hm : Sm fs) {i : Nat} (hi : i < (dList dRaw fs num most).1.length) : ((dList dRaw fs num most).1[i]).length ≤ 4194304 := by
  simp only [dList, List.getElem_map, dRaw]
  have hi' : i < (sel num fs).length := by simpa [dList] using hi
  have h5 := data_bulk hi'
  have h6 := bulk_sel num fs
  have h7 := hm.2.1
  omega
theorem ret_ten {a c d e f : Value} {k k' : Int} (h : k = k') : Ending.returned (.agg #[a, .int .i64 k, c, d, e, f]) = .returned (.agg #[a, .int .i64 k', c, d, e, f]) := by rw [h]
theorem bad_flb {f a b : Fl} {P : Prop} (h : (f.or (a.or (b.or (flb true)))).bad = false) : P := by simp [Fl.or, flb] at h
theorem bad_pre {f a b c : Fl} {P : Prop} (h : (f.or (a.or (b.or c))).bad = false) (hb : (f.or (a.or b)).bad = true) : P := by
  simp [Fl.or] at h hb
  simp [h] at hb
end Go.Proofs.YtlhpmlknmgocoaaGreat
