/- Words for a program that writes into fields that it was given: what it may touch, and what stays. -/
import Derived.Test.YthhanpfcnaokpaaOpen
namespace Go.Proofs.Ythhanpfcnaokpaa
open Go.RowKit

/-- of what was there in W0 only blocks from lo to hi have turned -/
structure Only (lo hi : Nat) (W0 w : World) : Prop where
  os : w.os = W0.os
  tape : w.tape = W0.tape
  output : w.output = W0.output
  size : W0.heap.size ≤ w.heap.size
  block : ∀ k, k < W0.heap.size → (k < lo ∨ hi ≤ k) → w.heap[k]? = W0.heap[k]?
theorem Only.refl (lo hi : Nat) (w : World) : Only lo hi w w := ⟨rfl, rfl, rfl, Nat.le_refl _, fun _ _ _ => rfl⟩
theorem Only.drew {lo hi : Nat} {W0 w : World} (h : Only lo hi W0 w) : Only lo hi W0 w.drew := ⟨h.os, h.tape, h.output, h.size, h.block⟩
theorem Only.drewN {lo hi : Nat} {W0 w : World} (h : Only lo hi W0 w) (n : Nat) : Only lo hi W0 (w.drewN n) := ⟨h.os, h.tape, h.output, h.size, h.block⟩
theorem Only.alloc {lo hi : Nat} {W0 w : World} (h : Only lo hi W0 w) (o : Obj) : Only lo hi W0 (w.alloc o) :=
  ⟨h.os, h.tape, h.output, Nat.le_trans h.size (by simp), fun k hk hh => (Below.heap_alloc w o k (Nat.lt_of_lt_of_le hk h.size)).trans (h.block k hk hh)⟩
theorem Only.setCell {lo hi : Nat} {W0 w : World} (h : Only lo hi W0 w) {p : Addr} (hp : lo ≤ p.block ∧ (p.block < hi ∨ W0.heap.size ≤ p.block)) (u : Value) : Only lo hi W0 (w.setCell p u) :=
  ⟨h.os, h.tape, h.output, by simpa [World.setCell] using h.size, fun k hk hh => (Below.heap_setCell w p u k (by omega)).trans (h.block k hk hh)⟩
theorem Only.grown {lo hi : Nat} {W0 w w' : World} (h : Only lo hi W0 w) {row : Option Nat} (hg : w.grownBy w' row) (hr : ∀ k, row = some k → lo ≤ k ∧ (k < hi ∨ W0.heap.size ≤ k)) : Only lo hi W0 w' :=
  ⟨hg.os.trans h.os, hg.tape.trans h.tape, hg.output.trans h.output, Nat.le_trans h.size hg.size, fun k hk hh => (hg.block k (Nat.lt_of_lt_of_le hk h.size) (fun e => by have := hr k e.symm; omega)).trans (h.block k hk hh)⟩
theorem Only.below {lo hi B : Nat} {W0 w : World} (h : Only lo hi W0 w) (hB : B ≤ lo) (hB' : lo ≤ W0.heap.size) : Below B W0 w := ⟨h.os, h.tape, h.output, h.size, fun k hk => h.block k (by omega) (by omega)⟩

/-- what is owned from hi on stays -/
theorem OB.only {lo hi base : Nat} {W0 w : World} {v : Value} {l : List UInt8} (ho : OB W0 base v l) (h : Only lo hi W0 w) (hb : hi ≤ base) : OB w base v l := by
  refine ⟨ho.1, ?_⟩
  rcases ho.2 with ho2 | ⟨g, cap, cur, h1, h2, h3, h4⟩
  · exact .inl ho2
  · refine .inr ⟨g, cap, cur, h1, h2, ?_, h4⟩
    rw [h.block g (Array.getElem?_eq_some_iff.1 h3).1 (by omega)]
    exact h3
theorem own_only {lo hi base size n : Nat} {e : TypeId} {W0 w : World} {v : Value} {xs : List Value} (ho : W0.ownsRow base e size v n xs) (h : Only lo hi W0 w) (hb : hi ≤ base) : w.ownsRow base e size v n xs := by
  refine ⟨ho.1, ?_⟩
  rcases ho.2 with ho2 | ⟨g, cap, cur, h1, h2, h3, h4⟩
  · exact .inl ho2
  · refine .inr ⟨g, cap, cur, h1, h2, ?_, h4⟩
    rw [h.block g (Array.getElem?_eq_some_iff.1 h3).1 (by omega)]
    exact h3
theorem OF.only {lo hi base : Nat} {e : TypeId} {W0 w : World} {v : Value} {fs : List Fld} (ho : OF W0 base e v fs) (h : Only lo hi W0 w) (hb : hi ≤ base) : OF w base e v fs := by
  obtain ⟨ds, h1, h2, h3, h4⟩ := ho
  exact ⟨ds, h1, own_only h2 h hb, fun i a b => (h3 i a b).only h hb, h4⟩

/-- a byte is written into a row of bytes -/
theorem OB.set {w : World} {base g : Nat} {n cap : Nat} {l : List UInt8} (ho : OB w base (.slice (some ⟨g, 0, none⟩) n cap) l) (k : Nat) (c : UInt8) :
    OB (w.setCell ⟨g, k, none⟩ (.int .u8 (c.toNat : Int))) base (.slice (some ⟨g, 0, none⟩) n cap) (l.set k c) := by
  obtain ⟨h1, h2⟩ := ho
  refine ⟨by rw [byt_len, List.length_set]; omega, ?_⟩
  rcases h2 with ⟨h, _⟩ | ⟨g', cap', cur, hv, hb, hg, hnc, hcm, hcs, htake⟩
  · cases h
  · injection hv with e1 e2 e3
    simp only [Option.some.injEq, Addr.mk.injEq, and_true] at e1
    subst e1 e3
    refine .inr ⟨g, cap, cur.setIfInBounds k (.int .u8 (c.toNat : Int)), by rw [List.length_set, e2], hb, (Blk.set_ (w := w) (g := g) hg k _), by rw [List.length_set]; exact hnc, hcm, by simpa using hcs, ?_⟩
    rw [List.length_set, Array.toList_setIfInBounds, List.take_set, htake]
    simp [byt, List.map_set]
theorem OB.other {w : World} {base : Nat} {v : Value} {l : List UInt8} (ho : OB w base v l) {p : Addr} (hp : v.ownBlock ≠ some p.block) (u : Value) : OB (w.setCell p u) base v l := by
  refine ⟨ho.1, ?_⟩
  rcases ho.2 with h | ⟨g, cap, cur, rfl, hb, hg, r⟩
  · exact .inl h
  · refine .inr ⟨g, cap, cur, rfl, hb, ?_, r⟩
    rw [Below.heap_setCell _ _ _ _ (by intro e; exact hp (by simp [Value.ownBlock, e]))]
    exact hg

/-- what is known once of fields of the call's own: their block g, their bytes' slices ds -/
structure LS (lo hi g : Nat) (fs : List Fld) (ds : List Value) : Prop where
  len : ds.length = fs.length
  row : lo ≤ g ∧ g < hi
  blk : ∀ j (h : j < ds.length), ∀ a, ds[j].ownBlock = some a → lo ≤ a ∧ a < hi
  ord : ∀ i j (h : i < ds.length) (h' : j < ds.length), i < j → ∀ a b, ds[i].ownBlock = some a → ds[j].ownBlock = some b → a < b
/-- fields of the call's own, of which those from i on have not been touched, but that their bytes are others -/
structure LM (lo hi g : Nat) (W0 : World) (fs : List Fld) (ds : List Value) (i : Nat) (w : World) : Prop where
  only : Only lo hi W0 w
  row : ∃ cur, w.heap[g]? = some (.cells cur 40 (0, 0)) ∧ fs.length * 4 ≤ cur.size ∧ ∀ j (h : j < ds.length), i ≤ j → cur[j * 4 + 3]? = some ds[j]
  dat : ∀ j (h : j < fs.length) (h' : j < ds.length), i ≤ j → ∃ l, l.length = fs[j].data.length ∧ OB w lo ds[j] l

section
variable {lo hi g : Nat} {W0 w w' : World} {fs : List Fld} {ds : List Value} {i : Nat}
theorem LM.drew (h : LM lo hi g W0 fs ds i w) : LM lo hi g W0 fs ds i w.drew := ⟨h.only.drew, h.row, h.dat⟩
theorem LM.drewN (h : LM lo hi g W0 fs ds i w) (n : Nat) : LM lo hi g W0 fs ds i (w.drewN n) := ⟨h.only.drewN n, h.row, h.dat⟩
theorem LM.cells (h : LM lo hi g W0 fs ds i w) (hi' : i < fs.length) (h' : i < ds.length) :
    w.cell? ⟨g, i * 4 + 3, none⟩ = some ds[i] ∧ (∃ u, w.cell? ⟨g, i * 4, none⟩ = some u) ∧ (∀ k, w.frozen? ⟨g, k, none⟩ = false) := by
  obtain ⟨cur, h1, h2, h3⟩ := h.row
  have hk : Blk w g 40 cur := h1
  refine ⟨(hk.cell _).trans (h3 i h' (Nat.le_refl _)), ?_, hk.frozen⟩
  refine ⟨cur[i * 4]'(by omega), (hk.cell _).trans (Array.getElem?_eq_getElem (by omega))⟩
theorem LM.slice (h : LM lo hi g W0 fs ds i w) (hi' : i < fs.length) (h' : i < ds.length) : ∃ A n c l, ds[i] = .slice A n c ∧ n = fs[i].data.length ∧ l.length = n ∧ OB w lo (.slice A n c) l := by
  obtain ⟨l, h1, h2⟩ := h.dat i hi' h' (Nat.le_refl _)
  obtain ⟨A, c, h3, -⟩ := h2.form
  exact ⟨A, l.length, c, l, h3, h1, rfl, h3 ▸ h2⟩
/-- a row of bytes: its place, its bytes, its marks -/
theorem OB.at_ {base n c : Nat} {A : Option Addr} {l : List UInt8} (h : OB w base (.slice A n c) l) {k : Nat} (hk : k < l.length) :
    ∃ gd, A = some ⟨gd, 0, none⟩ ∧ w.cell? ⟨gd, k, none⟩ = some (.int .u8 (l[k].toNat : Int)) ∧ w.frozen? ⟨gd, k, none⟩ = false := by
  rcases h.2 with ⟨h1, h2⟩ | ⟨gd, cap, cur, h1, hb, hg, hnc, hcm, hcs, htake⟩
  · omega
  · injection h1 with e1 e2 e3
    have hk' : Blk w gd 5 cur := hg
    refine ⟨gd, e1, ?_, hk'.frozen k⟩
    rw [hk'.cell k]
    have h5 := byt_get l k hk
    rw [← htake, List.getElem?_take] at h5
    rw [if_pos (by omega)] at h5
    simpa using h5
theorem LM.setData (h : LM lo hi g W0 fs ds i w) (st : LS lo hi g fs ds) (h' : i < ds.length) {gd n c : Nat} (hd : ds[i] = .slice (some ⟨gd, 0, none⟩) n c) (hi' : i < fs.length) (k : Nat) (x : UInt8) :
    LM lo hi g W0 fs ds i (w.setCell ⟨gd, k, none⟩ (.int .u8 (x.toNat : Int))) := by
  have hb := st.blk i h' gd (by rw [hd]; rfl)
  obtain ⟨l, h1, h2⟩ := h.dat i hi' h' (Nat.le_refl _)
  obtain ⟨cur, r1, r2, r3⟩ := h.row
  have hne : gd ≠ g := by
    rintro rfl
    rw [hd] at h2
    have hr : Blk w gd 40 cur := r1
    exact own_blk_ne h2 hr (by decide) (by rfl)
  refine ⟨h.only.setCell ⟨hb.1, .inl hb.2⟩ _, ⟨cur, ?_, r2, r3⟩, ?_⟩
  · rw [Below.heap_setCell _ _ _ _ (by simpa using hne.symm)]; exact r1
  · intro j hj hj' hij
    obtain ⟨lj, h3, h4⟩ := h.dat j hj hj' hij
    by_cases e : j = i
    · subst e
      rw [hd] at h4 ⊢
      exact ⟨lj.set k x, by rw [List.length_set]; exact h3, OB.set h4 k x⟩
    · refine ⟨lj, h3, h4.other ?_ _⟩
      intro he
      have := st.ord i j h' hj' (by omega) gd gd (by rw [hd]; rfl) he
      omega
/-- the cells of the fields' block behind an append onto the bytes of the field at i -/
theorem LM.after (h : LM lo hi g W0 fs ds i w) (h' : i < ds.length) (hi' : i < fs.length) (hw' : w.grownBy w' ds[i].ownBlock) :
    w'.cell? ⟨g, i * 4 + 3, none⟩ = some ds[i] ∧ (∃ u, w'.cell? ⟨g, i * 4, none⟩ = some u) ∧ (∀ k, w'.frozen? ⟨g, k, none⟩ = false) := by
  obtain ⟨l, h1, h2⟩ := h.dat i hi' h' (Nat.le_refl _)
  obtain ⟨cur, r1, r2, r3⟩ := h.row
  have hr : Blk w g 40 cur := r1
  have hk : Blk w' g 40 cur := hr.grown hw' (own_blk_ne h2 hr (by decide)).symm
  exact ⟨(hk.cell _).trans (r3 i h' (Nat.le_refl _)), ⟨cur[i * 4]'(by omega), (hk.cell _).trans (Array.getElem?_eq_getElem (by omega))⟩, hk.frozen⟩
/-- the field at i is done with: its bytes' slice grew, and two of its cells were written -/
theorem LM.next (h : LM lo hi g W0 fs ds i w) (st : LS lo hi g fs ds) (h' : i < ds.length) (hi' : i < fs.length) {v' u : Value} (hw' : w.grownBy w' ds[i].ownBlock) :
    LM lo hi g W0 fs ds (i + 1) ((w'.setCell ⟨g, i * 4 + 3, none⟩ v').setCell ⟨g, i * 4, none⟩ u) := by
  obtain ⟨l, h1, h2⟩ := h.dat i hi' h' (Nat.le_refl _)
  obtain ⟨cur, r1, r2, r3⟩ := h.row
  have hr : Blk w g 40 cur := r1
  have hr' : Blk w' g 40 cur := hr.grown hw' (own_blk_ne h2 hr (by decide)).symm
  have ho : Only lo hi W0 w' := h.only.grown hw' (fun k hk => by have := st.blk i h' k hk; omega)
  refine ⟨(ho.setCell (p := ⟨g, i * 4 + 3, none⟩) ⟨st.row.1, .inl st.row.2⟩ _).setCell (p := ⟨g, i * 4, none⟩) ⟨st.row.1, .inl st.row.2⟩ _, ⟨_, (hr'.set_ (i * 4 + 3) v').set_ (i * 4) u, by simpa using r2, ?_⟩, ?_⟩
  · intro j hj hij
    rw [Array.getElem?_setIfInBounds_ne (by omega), Array.getElem?_setIfInBounds_ne (by omega)]
    exact r3 j hj (by omega)
  · intro j hj hj' hij
    obtain ⟨lj, h3, h4⟩ := h.dat j hj hj' (by omega)
    have hne : ds[j].ownBlock = none ∨ ds[j].ownBlock ≠ ds[i].ownBlock := by
      cases e : ds[j].ownBlock with
      | none => exact .inl rfl
      | some b =>
        right
        intro e'
        have := st.ord i j h' hj' (by omega) b b e'.symm e
        omega
    have h5 : OB w' lo ds[j] lj := h4.kept hw' hne
    refine ⟨lj, h3, (h5.other ?_ _).other ?_ _⟩
    · exact own_blk_ne h5 hr' (by decide)
    · have h6 : OB (w'.setCell ⟨g, i * 4 + 3, none⟩ v') lo ds[j] lj := h5.other (own_blk_ne h5 hr' (by decide)) _
      exact own_blk_ne h6 (hr'.set_ (i * 4 + 3) v') (by decide)
end
/-- how it begins -/
theorem LM.start {lo hi : Nat} {W0 : World} {fs : List Fld} {v : Value} (hn : 0 < fs.length)
    {w1 : World} (h1 : OF w1 lo 40 v fs) (hz : w1.heap.size = hi) (hb : Below hi w1 W0) : ∃ g cap ds, v = .slice (some ⟨g, 0, none⟩) fs.length cap ∧ LS lo hi g fs ds ∧ LM lo hi g W0 fs ds 0 W0 := by
  obtain ⟨ds, e1, e2, e3, e4⟩ := h1
  rcases e2.2 with ⟨rfl, hx⟩ | ⟨g, cap, cur, rfl, hlo, hg, hnc, hcm, hcs, htake⟩
  · omega
  · have hgl := (Array.getElem?_eq_some_iff.1 hg).1
    refine ⟨g, cap, ds, rfl, ⟨e1, ⟨hlo, by omega⟩, fun j hj a ha => ?_, e4⟩, Only.refl _ _ _, ⟨cur, (hb.block g (by omega)).trans hg, by omega, ?_⟩, ?_⟩
    · have := (e3 j (by omega) hj).lt a ha; omega
    · intro j hj _
      have h5 := fcells_get fs ds e1 j 3 (by omega) hj (by omega)
      have hlt : j * 4 + 3 < fs.length * 4 := by omega
      rw [← htake, List.getElem?_take, if_pos hlt] at h5
      simpa [fcell] using h5
    · intro j hj hj' _
      exact ⟨_, rfl, (e3 j hj hj').below hb (by omega)⟩

theorem u8_flip (x : UInt8) (b : UInt8) : bits .xor .u8 (x.toNat : Int) (b.toNat : Int) = ((x ^^^ b).toNat : Int) := by
  rw [u8_xor_nat _ _ x.toNat_lt b.toNat_lt, UInt8.toNat_xor]
end Go.Proofs.Ythhanpfcnaokpaa
