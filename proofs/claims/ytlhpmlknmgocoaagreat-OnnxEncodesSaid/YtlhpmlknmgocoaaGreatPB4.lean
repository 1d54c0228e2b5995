import Derived.Test.YtlhpmlknmgocoaaGreatPB3
import Derived.Deep.RegionLaw
import Derived.Deep.RegionHeld3
import Derived.Test.YtlhpmlknmgocoaaGreatPB2
/- Contracts of the statements' helpers over fields: plain, equal. -/
namespace Go.Proofs.YtlhpmlknmgocoaaGreat
set_option linter.unusedSimpArgs false
set_option linter.unusedVariables false
open Go.RowKit

section
variable {P : Program} {ops : Array Oper} {o : Oper} {a : Act} {K : Act → World → Prop} {Q : Exit → Act → World → Prop} {E : Prop} {w : World}
/-- an append of one field as a step of a region that draws its order -/
theorem step_fieldD {D : Value → List UInt8 → Prop} (T e : TypeId) (ht : P.underlying T = some (.slice e)) (hinfo : (P.info? e).map (fun i => (i.zero, i.size, i.bytes)) = some (some (.agg #[.int .i64 0, .int .i64 0, .int .u64 0, .slice none 0 0]), 4, 48))
    (hgd : o.guard = none) (s x : Operand)
    (ho : o.op = .call { callee := .builtin .append, args := #[s, x], argTypes := #[T, T] }) {base : Nat} {v : Value} {fs : List Fld} (hown : OFD D w base e v fs) (hs : a.eval s = v)
    {n0 n1 n2 : Int} {dv : Value} {g : Nat} (hx : a.eval x = .slice (some ⟨g, 0, none⟩) 1 1) (hgs : g = w.heap.size) (f : Fld) (hn0 : n0 = f.num) (hn1 : n1 = f.wire) (hn2 : n2 = (f.x : Int)) (hdv : ∃ A n c, dv = .slice A n c) (hd : D dv f.data)
    (hlen : fs.length + 1 ≤ 2932031007400) (hbase : base ≤ w.heap.size)
    (h : ∀ v' w', OFD D w' base e v' (fs ++ [f]) → w.grownBy w' v.ownBlock → K (a.put o.dst v') w') :
    if Region.wanted o (yielded ops a.tmps) = true then Oper.wp P o a (w.alloc (.cells #[.int .i64 n0, .int .i64 n1, .int .u64 n2, dv] e)) K Q else E := by
  obtain ⟨i0, hi0, hz0, hz1, hz2⟩ := info_parts hinfo
  subst hn0 hn1 hn2 hgs
  obtain ⟨ds, h1, h2, h3⟩ := hown
  refine step_append_any _ hgd s x T ho base e i0 _ 4 48 ht hi0 hz0 hz1 hz2 rfl (by omega) v fs.length (fcells fs ds) hs (h2.alloc _) (w.heap.size + 1) _ 1 1
    (fcell f dv) hx (Reads.new_ w _ (fcell f dv) 4 1 rfl) ?_ (by unfold maxLen; omega) (fit_small (by omega)) (by simp; omega) ?_
  · intro u hu
    obtain ⟨A, n, c, rfl⟩ := hdv
    simp only [fcell, List.mem_cons, List.not_mem_nil, or_false] at hu
    rcases hu with rfl | rfl | rfl | rfl <;> rfl
  · intro v' w' hown' hg hat
    refine h v' w' ⟨ds ++ [dv], by simp [h1], ?_, ?_⟩ ((World.grownBy_alloc w _ _).trans hg)
    · rw [fcells_snoc f dv fs ds h1, List.length_append]
      exact hown'
    · intro i hi hi'
      by_cases hlt : i < fs.length
      · have := h3 i hlt (by omega)
        rwa [List.getElem_append_left hlt, List.getElem_append_left (by omega)]
      · have hie : i = fs.length := by simp at hi; omega
        subst hie
        rw [List.getElem_append_right (by omega), List.getElem_append_right (by omega)]
        simpa [h1] using hd
end

end Go.Proofs.YtlhpmlknmgocoaaGreat

/- Words for a program that writes into fields that it was given: what it may touch, and what stays. -/
namespace Go.Proofs.YtlhpmlknmgocoaaGreat
open Go.RowKit

/-- of what was there in W0 only blocks from lo to hi have turned -/
structure Only (lo hi : Nat) (W0 w : World) : Prop where
  os : w.os = W0.os
  tape : w.tape = W0.tape
  output : w.output = W0.output
  size : W0.heap.size ≤ w.heap.size
  block : ∀ k, k < W0.heap.size → (k < lo ∨ hi ≤ k) → w.heap[k]? = W0.heap[k]?
theorem Only.refl (lo hi : Nat) (w : World) : Only lo hi w w := ⟨rfl, rfl, rfl, Nat.le_refl _, fun _ _ _ => rfl⟩
theorem Only.drew {lo hi : Nat} {W0 w : World} (h : Only lo hi W0 w) : Only lo hi W0 w.drew := ⟨h.os, h.tape, h.output, h.size, h.block⟩
theorem Only.drewN {lo hi : Nat} {W0 w : World} (h : Only lo hi W0 w) (n : Nat) : Only lo hi W0 (w.drewN n) := ⟨h.os, h.tape, h.output, h.size, h.block⟩
theorem Only.alloc {lo hi : Nat} {W0 w : World} (h : Only lo hi W0 w) (o : Obj) : Only lo hi W0 (w.alloc o) :=
  ⟨h.os, h.tape, h.output, Nat.le_trans h.size (by simp), fun k hk hh => (Below.heap_alloc w o k (Nat.lt_of_lt_of_le hk h.size)).trans (h.block k hk hh)⟩
theorem Only.setCell {lo hi : Nat} {W0 w : World} (h : Only lo hi W0 w) {p : Addr} (hp : lo ≤ p.block ∧ (p.block < hi ∨ W0.heap.size ≤ p.block)) (u : Value) : Only lo hi W0 (w.setCell p u) :=
  ⟨h.os, h.tape, h.output, by simpa [World.setCell] using h.size, fun k hk hh => (Below.heap_setCell w p u k (by omega)).trans (h.block k hk hh)⟩
theorem Only.grown {lo hi : Nat} {W0 w w' : World} (h : Only lo hi W0 w) {row : Option Nat} (hg : w.grownBy w' row) (hr : ∀ k, row = some k → lo ≤ k ∧ (k < hi ∨ W0.heap.size ≤ k)) : Only lo hi W0 w' :=
  ⟨hg.os.trans h.os, hg.tape.trans h.tape, hg.output.trans h.output, Nat.le_trans h.size hg.size, fun k hk hh => (hg.block k (Nat.lt_of_lt_of_le hk h.size) (fun e => by have := hr k e.symm; omega)).trans (h.block k hk hh)⟩
theorem Only.below {lo hi B : Nat} {W0 w : World} (h : Only lo hi W0 w) (hB : B ≤ lo) (hB' : lo ≤ W0.heap.size) : Below B W0 w := ⟨h.os, h.tape, h.output, h.size, fun k hk => h.block k (by omega) (by omega)⟩

/-- what is owned from hi on stays -/
theorem OB.only {lo hi base : Nat} {W0 w : World} {v : Value} {l : List UInt8} (ho : OB W0 base v l) (h : Only lo hi W0 w) (hb : hi ≤ base) : OB w base v l := by
  refine ⟨ho.1, ?_⟩
  rcases ho.2 with ho2 | ⟨g, cap, cur, h1, h2, h3, h4⟩
  · exact .inl ho2
  · refine .inr ⟨g, cap, cur, h1, h2, ?_, h4⟩
    rw [h.block g (Array.getElem?_eq_some_iff.1 h3).1 (by omega)]
    exact h3
theorem own_only {lo hi base size n : Nat} {e : TypeId} {W0 w : World} {v : Value} {xs : List Value} (ho : W0.ownsRow base e size v n xs) (h : Only lo hi W0 w) (hb : hi ≤ base) : w.ownsRow base e size v n xs := by
  refine ⟨ho.1, ?_⟩
  rcases ho.2 with ho2 | ⟨g, cap, cur, h1, h2, h3, h4⟩
  · exact .inl ho2
  · refine .inr ⟨g, cap, cur, h1, h2, ?_, h4⟩
    rw [h.block g (Array.getElem?_eq_some_iff.1 h3).1 (by omega)]
    exact h3
theorem OF.only {lo hi base : Nat} {e : TypeId} {W0 w : World} {v : Value} {fs : List Fld} (ho : OF W0 base e v fs) (h : Only lo hi W0 w) (hb : hi ≤ base) : OF w base e v fs := by
  obtain ⟨ds, h1, h2, h3, h4⟩ := ho
  exact ⟨ds, h1, own_only h2 h hb, fun i a b => (h3 i a b).only h hb, h4⟩

/-- a byte is written into a row of bytes -/
theorem OB.set {w : World} {base g : Nat} {n cap : Nat} {l : List UInt8} (ho : OB w base (.slice (some ⟨g, 0, none⟩) n cap) l) (k : Nat) (c : UInt8) :
    OB (w.setCell ⟨g, k, none⟩ (.int .u8 (c.toNat : Int))) base (.slice (some ⟨g, 0, none⟩) n cap) (l.set k c) := by
  obtain ⟨h1, h2⟩ := ho
  refine ⟨by rw [byt_len, List.length_set]; omega, ?_⟩
  rcases h2 with ⟨h, _⟩ | ⟨g', cap', cur, hv, hb, hg, hnc, hcm, hcs, htake⟩
  · cases h
  · injection hv with e1 e2 e3
    simp only [Option.some.injEq, Addr.mk.injEq, and_true] at e1
    subst e1 e3
    refine .inr ⟨g, cap, cur.setIfInBounds k (.int .u8 (c.toNat : Int)), by rw [List.length_set, e2], hb, (Blk.set_ (w := w) (g := g) hg k _), by rw [List.length_set]; exact hnc, hcm, by simpa using hcs, ?_⟩
    rw [List.length_set, Array.toList_setIfInBounds, List.take_set, htake]
    simp [byt, List.map_set]
theorem OB.other {w : World} {base : Nat} {v : Value} {l : List UInt8} (ho : OB w base v l) {p : Addr} (hp : v.ownBlock ≠ some p.block) (u : Value) : OB (w.setCell p u) base v l := by
  refine ⟨ho.1, ?_⟩
  rcases ho.2 with h | ⟨g, cap, cur, rfl, hb, hg, r⟩
  · exact .inl h
  · refine .inr ⟨g, cap, cur, rfl, hb, ?_, r⟩
    rw [Below.heap_setCell _ _ _ _ (by intro e; exact hp (by simp [Value.ownBlock, e]))]
    exact hg

/-- what is known once of fields of the call's own: their block g, their bytes' slices ds -/
structure LS (lo hi g : Nat) (fs : List Fld) (ds : List Value) : Prop where
  len : ds.length = fs.length
  row : lo ≤ g ∧ g < hi
  blk : ∀ j (h : j < ds.length), ∀ a, ds[j].ownBlock = some a → lo ≤ a ∧ a < hi
  ord : ∀ i j (h : i < ds.length) (h' : j < ds.length), i < j → ∀ a b, ds[i].ownBlock = some a → ds[j].ownBlock = some b → a < b
/-- fields of the call's own, of which those from i on have not been touched, but that their bytes are others -/
structure LM (lo hi g : Nat) (W0 : World) (fs : List Fld) (ds : List Value) (i : Nat) (w : World) : Prop where
  only : Only lo hi W0 w
  row : ∃ cur, w.heap[g]? = some (.cells cur 108 (0, 0)) ∧ fs.length * 4 ≤ cur.size ∧ ∀ j (h : j < ds.length), i ≤ j → cur[j * 4 + 3]? = some ds[j]
  dat : ∀ j (h : j < fs.length) (h' : j < ds.length), i ≤ j → ∃ l, l.length = fs[j].data.length ∧ OB w lo ds[j] l

section
variable {lo hi g : Nat} {W0 w w' : World} {fs : List Fld} {ds : List Value} {i : Nat}
theorem LM.drew (h : LM lo hi g W0 fs ds i w) : LM lo hi g W0 fs ds i w.drew := ⟨h.only.drew, h.row, h.dat⟩
theorem LM.drewN (h : LM lo hi g W0 fs ds i w) (n : Nat) : LM lo hi g W0 fs ds i (w.drewN n) := ⟨h.only.drewN n, h.row, h.dat⟩
theorem LM.cells (h : LM lo hi g W0 fs ds i w) (hi' : i < fs.length) (h' : i < ds.length) :
    w.cell? ⟨g, i * 4 + 3, none⟩ = some ds[i] ∧ (∃ u, w.cell? ⟨g, i * 4, none⟩ = some u) ∧ (∀ k, w.frozen? ⟨g, k, none⟩ = false) := by
  obtain ⟨cur, h1, h2, h3⟩ := h.row
  have hk : Blk w g 108 cur := h1
  refine ⟨(hk.cell _).trans (h3 i h' (Nat.le_refl _)), ?_, hk.frozen⟩
  refine ⟨cur[i * 4]'(by omega), (hk.cell _).trans (Array.getElem?_eq_getElem (by omega))⟩
theorem LM.slice (h : LM lo hi g W0 fs ds i w) (hi' : i < fs.length) (h' : i < ds.length) : ∃ A n c l, ds[i] = .slice A n c ∧ n = fs[i].data.length ∧ l.length = n ∧ OB w lo (.slice A n c) l := by
  obtain ⟨l, h1, h2⟩ := h.dat i hi' h' (Nat.le_refl _)
  obtain ⟨A, c, h3, -⟩ := h2.form
  exact ⟨A, l.length, c, l, h3, h1, rfl, h3 ▸ h2⟩
/-- a row of bytes: its place, its bytes, its marks -/
theorem OB.at_ {base n c : Nat} {A : Option Addr} {l : List UInt8} (h : OB w base (.slice A n c) l) {k : Nat} (hk : k < l.length) :
    ∃ gd, A = some ⟨gd, 0, none⟩ ∧ w.cell? ⟨gd, k, none⟩ = some (.int .u8 (l[k].toNat : Int)) ∧ w.frozen? ⟨gd, k, none⟩ = false := by
  rcases h.2 with ⟨h1, h2⟩ | ⟨gd, cap, cur, h1, hb, hg, hnc, hcm, hcs, htake⟩
  · omega
  · injection h1 with e1 e2 e3
    have hk' : Blk w gd 5 cur := hg
    refine ⟨gd, e1, ?_, hk'.frozen k⟩
    rw [hk'.cell k]
    have h5 := byt_get l k hk
    rw [← htake, List.getElem?_take] at h5
    rw [if_pos (by omega)] at h5
    simpa using h5
theorem LM.setData (h : LM lo hi g W0 fs ds i w) (st : LS lo hi g fs ds) (h' : i < ds.length) {gd n c : Nat} (hd : ds[i] = .slice (some ⟨gd, 0, none⟩) n c) (hi' : i < fs.length) (k : Nat) (x : UInt8) :
    LM lo hi g W0 fs ds i (w.setCell ⟨gd, k, none⟩ (.int .u8 (x.toNat : Int))) := by
  have hb := st.blk i h' gd (by rw [hd]; rfl)
  obtain ⟨l, h1, h2⟩ := h.dat i hi' h' (Nat.le_refl _)
  obtain ⟨cur, r1, r2, r3⟩ := h.row
  have hne : gd ≠ g := by
    rintro rfl
    rw [hd] at h2
    have hr : Blk w gd 108 cur := r1
    exact own_blk_ne h2 hr (by decide) (by rfl)
  refine ⟨h.only.setCell ⟨hb.1, .inl hb.2⟩ _, ⟨cur, ?_, r2, r3⟩, ?_⟩
  · rw [Below.heap_setCell _ _ _ _ (by simpa using hne.symm)]; exact r1
  · intro j hj hj' hij
    obtain ⟨lj, h3, h4⟩ := h.dat j hj hj' hij
    by_cases e : j = i
    · subst e
      rw [hd] at h4 ⊢
      exact ⟨lj.set k x, by rw [List.length_set]; exact h3, OB.set h4 k x⟩
    · refine ⟨lj, h3, h4.other ?_ _⟩
      intro he
      have := st.ord i j h' hj' (by omega) gd gd (by rw [hd]; rfl) he
      omega
/-- the cells of the fields' block behind an append onto the bytes of the field at i -/
theorem LM.after (h : LM lo hi g W0 fs ds i w) (h' : i < ds.length) (hi' : i < fs.length) (hw' : w.grownBy w' ds[i].ownBlock) :
    w'.cell? ⟨g, i * 4 + 3, none⟩ = some ds[i] ∧ (∃ u, w'.cell? ⟨g, i * 4, none⟩ = some u) ∧ (∀ k, w'.frozen? ⟨g, k, none⟩ = false) := by
  obtain ⟨l, h1, h2⟩ := h.dat i hi' h' (Nat.le_refl _)
  obtain ⟨cur, r1, r2, r3⟩ := h.row
  have hr : Blk w g 108 cur := r1
  have hk : Blk w' g 108 cur := hr.grown hw' (own_blk_ne h2 hr (by decide)).symm
  exact ⟨(hk.cell _).trans (r3 i h' (Nat.le_refl _)), ⟨cur[i * 4]'(by omega), (hk.cell _).trans (Array.getElem?_eq_getElem (by omega))⟩, hk.frozen⟩
/-- the field at i is done with: its bytes' slice grew, and two of its cells were written -/
theorem LM.next (h : LM lo hi g W0 fs ds i w) (st : LS lo hi g fs ds) (h' : i < ds.length) (hi' : i < fs.length) {v' u : Value} (hw' : w.grownBy w' ds[i].ownBlock) :
    LM lo hi g W0 fs ds (i + 1) ((w'.setCell ⟨g, i * 4 + 3, none⟩ v').setCell ⟨g, i * 4, none⟩ u) := by
  obtain ⟨l, h1, h2⟩ := h.dat i hi' h' (Nat.le_refl _)
  obtain ⟨cur, r1, r2, r3⟩ := h.row
  have hr : Blk w g 108 cur := r1
  have hr' : Blk w' g 108 cur := hr.grown hw' (own_blk_ne h2 hr (by decide)).symm
  have ho : Only lo hi W0 w' := h.only.grown hw' (fun k hk => by have := st.blk i h' k hk; omega)
  refine ⟨(ho.setCell (p := ⟨g, i * 4 + 3, none⟩) ⟨st.row.1, .inl st.row.2⟩ _).setCell (p := ⟨g, i * 4, none⟩) ⟨st.row.1, .inl st.row.2⟩ _, ⟨_, (hr'.set_ (i * 4 + 3) v').set_ (i * 4) u, by simpa using r2, ?_⟩, ?_⟩
  · intro j hj hij
    rw [Array.getElem?_setIfInBounds_ne (by omega), Array.getElem?_setIfInBounds_ne (by omega)]
    exact r3 j hj (by omega)
  · intro j hj hj' hij
    obtain ⟨lj, h3, h4⟩ := h.dat j hj hj' (by omega)
    have hne : ds[j].ownBlock = none ∨ ds[j].ownBlock ≠ ds[i].ownBlock := by
      cases e : ds[j].ownBlock with
      | none => exact .inl rfl
      | some b =>
        right
        intro e'
        have := st.ord i j h' hj' (by omega) b b e'.symm e
        omega
    have h5 : OB w' lo ds[j] lj := h4.kept hw' hne
    refine ⟨lj, h3, (h5.other ?_ _).other ?_ _⟩
    · exact own_blk_ne h5 hr' (by decide)
    · have h6 : OB (w'.setCell ⟨g, i * 4 + 3, none⟩ v') lo ds[j] lj := h5.other (own_blk_ne h5 hr' (by decide)) _
      exact own_blk_ne h6 (hr'.set_ (i * 4 + 3) v') (by decide)
end
/-- how it begins -/
theorem LM.start {lo hi : Nat} {W0 : World} {fs : List Fld} {v : Value} (hn : 0 < fs.length)
    {w1 : World} (h1 : OF w1 lo 108 v fs) (hz : w1.heap.size = hi) (hb : Below hi w1 W0) : ∃ g cap ds, v = .slice (some ⟨g, 0, none⟩) fs.length cap ∧ LS lo hi g fs ds ∧ LM lo hi g W0 fs ds 0 W0 := by
  obtain ⟨ds, e1, e2, e3, e4⟩ := h1
  rcases e2.2 with ⟨rfl, hx⟩ | ⟨g, cap, cur, rfl, hlo, hg, hnc, hcm, hcs, htake⟩
  · omega
  · have hgl := (Array.getElem?_eq_some_iff.1 hg).1
    refine ⟨g, cap, ds, rfl, ⟨e1, ⟨hlo, by omega⟩, fun j hj a ha => ?_, e4⟩, Only.refl _ _ _, ⟨cur, (hb.block g (by omega)).trans hg, by omega, ?_⟩, ?_⟩
    · have := (e3 j (by omega) hj).lt a ha; omega
    · intro j hj _
      have h5 := fcells_get fs ds e1 j 3 (by omega) hj (by omega)
      have hlt : j * 4 + 3 < fs.length * 4 := by omega
      rw [← htake, List.getElem?_take, if_pos hlt] at h5
      simpa [fcell] using h5
    · intro j hj hj' _
      exact ⟨_, rfl, (e3 j hj hj').below hb (by omega)⟩

theorem u8_flip (x : UInt8) (b : UInt8) : bits .xor .u8 (x.toNat : Int) (b.toNat : Int) = ((x ^^^ b).toNat : Int) := by
  rw [u8_xor_nat _ _ x.toNat_lt b.toNat_lt, UInt8.toNat_xor]
end Go.Proofs.YtlhpmlknmgocoaaGreat

/- Plain laws of layer 6: Read of Write, Write of Read. No program in sight. -/
namespace Go.Proofs.YtlhpmlknmgocoaaGreat

theorem lit8_fix (x n : Nat) : lit8 (fix8 x n) = x % 256 ^ n := by
  induction n with
  | zero => simp [fix8, lit8, Nat.mod_one]
  | succ n ih =>
    rw [fix8_succ, lit8_append, ih, fix8_len]
    have h1 : (UInt8.ofNat (x / 256 ^ n)).toNat = x / 256 ^ n % 256 := by simp
    simp only [lit8, h1, Nat.mul_zero, Nat.add_zero]
    rw [Nat.pow_succ, Nat.mod_mul]

/-- the field that stands at a place where its bytes stand -/
theorem rdF_wr {l post : List UInt8} {p : Nat} {f : Fld} (hd : l.drop p = wrF f ++ post) (hm : mayF f = true) (hx : f.x < 18446744073709551616) (hn : f.data.length < 18446744073709551616) :
    rdF l p = some (f, p + (wrF f).length) := by
  obtain ⟨m, hnum, hm1, hm2, hcase⟩ := mayF_cases hm
  obtain ⟨num, wire, x, data⟩ := f
  dsimp only at *
  subst hnum
  have hlen : l.length = p + ((wrF ⟨m, wire, x, data⟩).length + post.length) := by
    have h1 : (l.drop p).length = (wrF ⟨m, wire, x, data⟩ ++ post).length := by rw [hd]
    rw [List.length_drop, List.length_append] at h1
    have h2 : 1 ≤ (wrF ⟨m, wire, x, data⟩).length := by
      have := vi_len ((m : Int).toNat * 8 + wire.toNat)
      unfold wrF
      rw [List.length_append]; dsimp only; omega
    omega
  rcases hcase with ⟨rfl, rfl⟩ | ⟨rfl, rfl⟩ | ⟨rfl, rfl, hx32⟩ | ⟨rfl, rfl⟩
  · have hw : wrF ⟨m, 0, x, []⟩ = vi (m * 8 + 0) ++ vi x := by simp [wrF]
    rw [hw] at hd hlen ⊢
    rw [List.append_assoc] at hd
    have h1 : rdv 0 (l.drop p) = some (m * 8 + 0, (vi (m * 8 + 0)).length) := by rw [hd]; exact rdv_vi _ _ (by omega)
    have h2 : l.drop (p + (vi (m * 8 + 0)).length) = vi x ++ post := by rw [← List.drop_drop, hd, List.drop_left]
    have h3 : rdv 0 (l.drop (p + (vi (m * 8 + 0)).length)) = some (x, (vi x).length) := by rw [h2]; exact rdv_vi _ _ hx
    rw [rdF_part h1 (by omega)]
    have e1 : (m * 8 + 0) % 8 = 0 := by omega
    have e2 : (m * 8 + 0) / 8 = m := by omega
    rw [e1, e2]
    simp only [part, if_true, h3, Option.map_some, List.length_append]
    simp [Nat.add_assoc]
  · have hw : wrF ⟨m, 1, x, []⟩ = vi (m * 8 + 1) ++ fix8 x 8 := by simp [wrF]
    rw [hw] at hd hlen ⊢
    rw [List.append_assoc] at hd
    rw [List.length_append, fix8_len] at hlen
    have h1 : rdv 0 (l.drop p) = some (m * 8 + 1, (vi (m * 8 + 1)).length) := by rw [hd]; exact rdv_vi _ _ (by omega)
    have h2 : l.drop (p + (vi (m * 8 + 1)).length) = fix8 x 8 ++ post := by rw [← List.drop_drop, hd, List.drop_left]
    have h3 : lit8 ((l.drop (p + (vi (m * 8 + 1)).length)).take 8) = x := by
      rw [h2, List.take_left' (fix8_len x 8), lit8_fix]
      exact Nat.mod_eq_of_lt (by simpa using hx)
    rw [rdF_part h1 (by omega)]
    have e1 : (m * 8 + 1) % 8 = 1 := by omega
    have e2 : (m * 8 + 1) / 8 = m := by omega
    rw [e1, e2]
    have h4 : p + (vi (m * 8 + 1)).length + 8 ≤ l.length := by omega
    simp only [part, Nat.one_ne_zero, if_false, if_true, h4, h3, Option.map_some, List.length_append, fix8_len]
    simp [Nat.add_assoc]
  · have hw : wrF ⟨m, 5, x, []⟩ = vi (m * 8 + 5) ++ fix8 x 4 := by simp [wrF]
    rw [hw] at hd hlen ⊢
    rw [List.append_assoc] at hd
    rw [List.length_append, fix8_len] at hlen
    have h1 : rdv 0 (l.drop p) = some (m * 8 + 5, (vi (m * 8 + 5)).length) := by rw [hd]; exact rdv_vi _ _ (by omega)
    have h2 : l.drop (p + (vi (m * 8 + 5)).length) = fix8 x 4 ++ post := by rw [← List.drop_drop, hd, List.drop_left]
    have h3 : lit8 ((l.drop (p + (vi (m * 8 + 5)).length)).take 4) = x := by
      rw [h2, List.take_left' (fix8_len x 4), lit8_fix]
      exact Nat.mod_eq_of_lt (by simpa using hx32)
    rw [rdF_part h1 (by omega)]
    have e1 : (m * 8 + 5) % 8 = 5 := by omega
    have e2 : (m * 8 + 5) / 8 = m := by omega
    rw [e1, e2]
    have h4 : p + (vi (m * 8 + 5)).length + 4 ≤ l.length := by omega
    have e3 : ¬ (5 = 0) := by decide
    have e4 : ¬ (5 = 1) := by decide
    simp only [part, e3, e4, if_false, if_true, h4, h3, Option.map_some, List.length_append, fix8_len]
    simp [Nat.add_assoc]
  · have hw : wrF ⟨m, 2, 0, data⟩ = vi (m * 8 + 2) ++ (vi data.length ++ data) := by simp [wrF]
    rw [hw] at hd hlen ⊢
    rw [List.append_assoc, List.append_assoc] at hd
    rw [List.length_append, List.length_append] at hlen
    have h1 : rdv 0 (l.drop p) = some (m * 8 + 2, (vi (m * 8 + 2)).length) := by rw [hd]; exact rdv_vi _ _ (by omega)
    have h2 : l.drop (p + (vi (m * 8 + 2)).length) = vi data.length ++ (data ++ post) := by rw [← List.drop_drop, hd, List.drop_left]
    have h3 : rdv 0 (l.drop (p + (vi (m * 8 + 2)).length)) = some (data.length, (vi data.length).length) := by rw [h2]; exact rdv_vi _ _ hn
    have h4 : l.drop (p + (vi (m * 8 + 2)).length + (vi data.length).length) = data ++ post := by rw [← List.drop_drop, h2, List.drop_left]
    rw [rdF_part h1 (by omega)]
    have e1 : (m * 8 + 2) % 8 = 2 := by omega
    have e2 : (m * 8 + 2) / 8 = m := by omega
    rw [e1, e2]
    have h5 : p + (vi (m * 8 + 2)).length + (vi data.length).length + data.length ≤ l.length := by omega
    have e3 : ¬ (2 = 0) := by decide
    have e4 : ¬ (2 = 1) := by decide
    have e5 : ¬ (2 = 5) := by decide
    simp only [part, e3, e4, e5, if_false, if_true, h3, Option.bind_some, h5, h4, List.take_left, Option.map_some, List.length_append]
    simp [Nat.add_assoc]

def Ok64 (fs : List Fld) : Prop := ∀ f ∈ fs, mayF f = true ∧ f.x < 18446744073709551616 ∧ f.data.length < 18446744073709551616

theorem wrF_pos (f : Fld) : 1 ≤ (wrF f).length := by
  have := vi_len (f.num.toNat * 8 + f.wire.toNat)
  unfold wrF; rw [List.length_append]; omega

theorem rda_wr : ∀ (fs : List Fld) (f p : Nat) (l : List UInt8), Ok64 fs → l.drop p = wr fs → p ≤ l.length → l.length < p + f → rda f l p = some fs
  | _, 0, p, l, _, _, h1, h2 => by omega
  | [], f + 1, p, l, _, h, h1, _ => by
    have : p = l.length := by
      have h3 : (l.drop p).length = 0 := by rw [h]; rfl
      rw [List.length_drop] at h3; omega
    simp [rda, this]
  | a :: fs, f + 1, p, l, hok, h, h1, h2 => by
    have hc : wr (a :: fs) = wrF a ++ wr fs := by simp [wr]
    rw [hc] at h
    obtain ⟨m1, m2, m3⟩ := hok a (by simp)
    have hr := rdF_wr h m1 m2 m3
    have hp := wrF_pos a
    have hlen : l.length - p = (wrF a).length + (wr fs).length := by rw [← List.length_drop, h, List.length_append]
    have hne : ¬ p = l.length := by omega
    simp only [rda, hne, if_false, hr]
    rw [rda_wr fs f (p + (wrF a).length) l (fun f hf => hok f (by simp [hf])) (by rw [← List.drop_drop, h, List.drop_left]) (by omega) (by omega)]
    rfl

theorem rd_wr (fs : List Fld) (h : Ok64 fs) : rd (wr fs) = some fs := rda_wr fs _ 0 _ h (by simp) (Nat.zero_le _) (by omega)

/-- what is written is read -/
theorem read_write {fs : List Fld} (hok : ∀ f ∈ fs, f.x < 18446744073709551616 ∧ f.data.length < 18446744073709551616) {b : List UInt8} (h : writeE fs = (b, 0)) : readE b = (fs, 0) := by
  unfold writeE at h
  split at h
  · rename_i hall
    split at h
    · simp at h
    · rename_i hl
      simp only [Prod.mk.injEq, and_true] at h
      subst h
      rw [List.all_eq_true] at hall
      simp only [readE, if_neg hl, rd_wr fs (fun f hf => ⟨hall f hf, hok f hf⟩)]
  · simp at h

theorem write_err {fs : List Fld} {b : List UInt8} {er : Int} (h : writeE fs = (b, er)) (hne : er ≠ 0) : b = [] ∧ (er = 1 ∨ er = 8) := by
  unfold writeE at h
  split at h
  · split at h
    · simp only [Prod.mk.injEq] at h; exact ⟨h.1.symm, .inr h.2.symm⟩
    · simp only [Prod.mk.injEq] at h; exact absurd h.2.symm hne
  · simp only [Prod.mk.injEq] at h; exact ⟨h.1.symm, .inl h.2.symm⟩

/-! ### Write of Read -/
theorem vif_short : ∀ (l : List UInt8) (i x n : Nat), i ≤ 9 → rdv i l = some (x, n) → (vif (9 - i) x).length ≤ n := by
  intro l
  induction l with
  | nil => intro i x n _ h; simp [rdv] at h
  | cons c l ih =>
    intro i x n hi h
    unfold rdv at h
    split at h
    · cases h
    · rename_i h9
      split at h
      · rename_i hc
        simp only [Option.some.injEq, Prod.mk.injEq] at h
        obtain ⟨rfl, rfl⟩ := h
        cases 9 - i <;> simp [vif, hc]
      · rename_i hc
        simp only [Option.map_eq_some_iff, Prod.mk.injEq] at h
        obtain ⟨q, hq, h1, h2⟩ := h
        have hi9 : i < 9 := by
          have := c.toNat_lt
          omega
        have := ih (i + 1) q.1 q.2 (by omega) hq
        rw [show 9 - i = (9 - (i + 1)) + 1 by omega]
        unfold vif
        have hcl := c.toNat_lt
        split
        · simp; omega
        · rw [show x / 128 = q.1 by omega]
          simp only [List.length_cons]; omega
theorem vi_short {l : List UInt8} {x n : Nat} (h : rdv 0 l = some (x, n)) : (vi x).length ≤ n := vif_short l 0 x n (by omega) h

theorem rdF_ok {l : List UInt8} {p q : Nat} {f : Fld} (_hp : p ≤ l.length) (_hl : l.length ≤ 4194304) (h : rdF l p = some (f, q)) : mayF f = true ∧ f.x < 18446744073709551616 ∧ p + (wrF f).length ≤ q := by
  cases ht : rdv 0 (l.drop p) with
  | none => rw [rdF_none ht] at h; cases h
  | some r =>
    obtain ⟨tag, n⟩ := r
    by_cases hbad : tag / 8 < 1 ∨ 536870911 < tag / 8
    · rw [rdF_bad ht hbad] at h; cases h
    · rw [rdF_part ht hbad] at h
      have hs := vi_short ht
      have hn := rdv_len _ _ _ _ ht
      rw [List.length_drop] at hn
      have hdec : tag = tag / 8 * 8 + tag % 8 := by omega
      simp only [Option.map_eq_some_iff, Prod.mk.injEq] at h
      obtain ⟨⟨x, d, q'⟩, hr, hf, hq⟩ := h
      dsimp only at hf hq
      subst hq
      have hnum1 : decide ((1 : Int) ≤ ((tag / 8 : Nat) : Int)) = true := by simp; omega
      have hnum2 : decide (((tag / 8 : Nat) : Int) ≤ 536870911) = true := by simp; omega
      unfold part at hr
      split at hr
      · rename_i hw
        simp only [Option.map_eq_some_iff, Prod.mk.injEq] at hr
        obtain ⟨⟨y, k⟩, hv, rfl, rfl, rfl⟩ := hr
        subst hf
        have h64 := rdv_lt64 hv
        have hs2 := vi_short hv
        rw [hw]
        refine ⟨?_, h64, ?_⟩
        · simp only [mayF, mayN, hnum1, hnum2]; simp
        · have : wrF ⟨((tag / 8 : Nat) : Int), ((0 : Nat) : Int), y, []⟩ = vi tag ++ vi y := by
            simp only [wrF]; rw [show ((tag / 8 : Nat) : Int).toNat * 8 + ((0 : Nat) : Int).toNat = tag by omega]; simp
          rw [this, List.length_append]; dsimp only; omega
      · split at hr
        · rename_i hw
          split at hr
          · rename_i hle
            simp only [Option.some.injEq, Prod.mk.injEq] at hr
            obtain ⟨rfl, rfl, rfl⟩ := hr
            subst hf
            rw [hw]
            refine ⟨?_, lit8_lt64 _ (by simp; omega), ?_⟩
            · simp only [mayF, mayN, hnum1, hnum2]; simp
            · have : ∀ y, wrF ⟨((tag / 8 : Nat) : Int), ((1 : Nat) : Int), y, []⟩ = vi tag ++ fix8 y 8 := by
                intro y; simp only [wrF]; rw [show ((tag / 8 : Nat) : Int).toNat * 8 + ((1 : Nat) : Int).toNat = tag by omega]; simp
              rw [this, List.length_append, fix8_len]; omega
          · cases hr
        · split at hr
          · rename_i hw
            split at hr
            · rename_i hle
              simp only [Option.some.injEq, Prod.mk.injEq] at hr
              obtain ⟨rfl, rfl, rfl⟩ := hr
              subst hf
              rw [hw]
              have h32 : lit8 (List.take 4 (List.drop (p + n) l)) < 4294967296 := by
                have := lit8_lt (List.take 4 (List.drop (p + n) l))
                have h4 : (List.take 4 (List.drop (p + n) l)).length ≤ 4 := by simp; omega
                have h5 : 256 ^ (List.take 4 (List.drop (p + n) l)).length ≤ 256 ^ 4 := Nat.pow_le_pow_right (by decide) h4
                have h6 : 256 ^ 4 = 4294967296 := by decide
                omega
              refine ⟨?_, by dsimp only; omega, ?_⟩
              · simp only [mayF, mayN, hnum1, hnum2]; simp [h32]
              · have : ∀ y, wrF ⟨((tag / 8 : Nat) : Int), ((5 : Nat) : Int), y, []⟩ = vi tag ++ fix8 y 4 := by
                  intro y; simp only [wrF]; rw [show ((tag / 8 : Nat) : Int).toNat * 8 + ((5 : Nat) : Int).toNat = tag by omega]; simp
                rw [this, List.length_append, fix8_len]; omega
            · cases hr
          · split at hr
            · rename_i hw
              simp only [Option.bind_eq_some_iff] at hr
              obtain ⟨⟨y, k⟩, hv, hr⟩ := hr
              dsimp only at hr
              split at hr
              · rename_i hle
                simp only [Option.some.injEq, Prod.mk.injEq] at hr
                obtain ⟨rfl, rfl, rfl⟩ := hr
                subst hf
                rw [hw]
                have hs2 := vi_short hv
                have hdl : (List.take y (List.drop (p + n + k) l)).length = y := by simp; omega
                refine ⟨?_, by dsimp only; omega, ?_⟩
                · simp only [mayF, mayN, hnum1, hnum2]; simp
                · have : wrF ⟨((tag / 8 : Nat) : Int), ((2 : Nat) : Int), 0, List.take y (List.drop (p + n + k) l)⟩ = vi tag ++ (vi y ++ List.take y (List.drop (p + n + k) l)) := by
                    simp only [wrF]; rw [show ((tag / 8 : Nat) : Int).toNat * 8 + ((2 : Nat) : Int).toNat = tag by omega, hdl]; simp
                  rw [this, List.length_append, List.length_append, hdl]; omega
              · cases hr
            · cases hr

theorem rda_ok (l : List UInt8) (hl : l.length ≤ 4194304) : ∀ f p fs, p ≤ l.length → rda f l p = some fs → (∀ a ∈ fs, mayF a = true ∧ a.x < 18446744073709551616) ∧ p + (wr fs).length ≤ l.length := by
  intro f
  induction f with
  | zero => intro p fs _ h; simp [rda] at h
  | succ f ih =>
    intro p fs hp h
    unfold rda at h
    split at h
    · simp only [Option.some.injEq] at h; subst h; exact ⟨fun a ha => by simp at ha, by simpa [wr] using hp⟩
    · split at h
      · cases h
      · rename_i a q hq
        simp only [Option.map_eq_some_iff] at h
        obtain ⟨r, hr, rfl⟩ := h
        have h1 := rdF_le hp hq
        obtain ⟨g1, g2, g3⟩ := rdF_ok hp hl hq
        obtain ⟨k1, k2⟩ := ih q r h1.2 hr
        refine ⟨fun b hb => ?_, ?_⟩
        · rcases List.mem_cons.1 hb with rfl | hb
          · exact ⟨g1, g2⟩
          · exact k1 b hb
        · have : wr (a :: r) = wrF a ++ wr r := by simp [wr]
          rw [this, List.length_append]; omega

/-- what is read may be written, in no more bytes -/
theorem write_read {l : List UInt8} {fs : List Fld} (h : readE l = (fs, 0)) : writeE fs = (wr fs, 0) ∧ (wr fs).length ≤ l.length ∧ (∀ f ∈ fs, f.x < 18446744073709551616 ∧ f.data.length ≤ 4194304) := by
  have hdat := readE_data l
  rw [h] at hdat
  unfold readE at h
  split at h
  · simp at h
  · rename_i hl
    split at h
    · simp at h
    · rename_i fs' hfs
      simp only [Prod.mk.injEq, and_true] at h
      subst h
      obtain ⟨h1, h2⟩ := rda_ok l (by omega) _ 0 fs' (Nat.zero_le _) hfs
      refine ⟨?_, by omega, fun f hf => ⟨(h1 f hf).2, hdat f hf⟩⟩
      unfold writeE
      rw [if_pos (List.all_eq_true.2 fun f hf => (h1 f hf).1), if_neg (by omega)]
end Go.Proofs.YtlhpmlknmgocoaaGreat

/- The contract of equal: fields alike. -/
namespace Go.Proofs.YtlhpmlknmgocoaaGreat
open Go.RowKit

def EQrel (fs : List Fld) (w : World) (i : Value) (wr : World) : Prop := ∃ k n : Nat, k ≤ fs.length ∧ i = .int .i64 (k : Int) ∧ wr = w.drewN n

end Go.Proofs.YtlhpmlknmgocoaaGreat

/- What joins the plain laws of there-and-back to the walks. -/
namespace Go.Proofs.YtlhpmlknmgocoaaGreat
open Go.RowKit

theorem wf_back {fs : List Fld} (h : Wf64 fs) : ∀ f ∈ fs, f.x < 18446744073709551616 ∧ f.data.length < 18446744073709551616 := fun f hf => ⟨(h f hf).1, by have := (h f hf).2; omega⟩
theorem ok_back {fs : List Fld} (h : ∀ f ∈ fs, f.x < 18446744073709551616 ∧ f.data.length ≤ 4194304) : ∀ f ∈ fs, f.x < 18446744073709551616 ∧ f.data.length < 18446744073709551616 := fun f hf => ⟨(h f hf).1, by have := (h f hf).2; omega⟩
theorem wf_read {l : List UInt8} {fs : List Fld} (h : readE l = (fs, 0)) : Wf64 fs := fun f hf => ⟨((write_read h).2.2 f hf).1, by have := ((write_read h).2.2 f hf).2; omega⟩
theorem read_err {l : List UInt8} {fs : List Fld} {er : Int} (h : readE l = (fs, er)) (hne : er ≠ 0) : fs = [] ∧ (er = 6 ∨ er = 8) := by
  unfold readE at h
  split at h
  · simp only [Prod.mk.injEq] at h
    exact ⟨h.1.symm, .inr h.2.symm⟩
  · split at h <;> simp only [Prod.mk.injEq] at h
    · exact ⟨h.1.symm, .inl h.2.symm⟩
    · exact absurd h.2.symm hne
end Go.Proofs.YtlhpmlknmgocoaaGreat

/- Plain laws of a number's values: the varints of bytes, of fields, and that two lists of fields joined give both. -/
namespace Go.Proofs.YtlhpmlknmgocoaaGreat
open Go.RowKit

def vsa : Nat → List UInt8 → Nat → Option (List Nat)
  | 0, _, _ => none
  | f + 1, l, p => if p = l.length then some [] else match rdv 0 (l.drop p) with
    | none => none
    | some (x, n) => (vsa f l (p + n)).map (x :: ·)
def vs (l : List UInt8) : Option (List Nat) := vsa (l.length + 1) l 0
/-- some varints have been read, up to a place -/
def VS (l : List UInt8) (xs : List Nat) (p : Nat) : Prop := p ≤ l.length ∧ xs.length ≤ p ∧ ∃ f, l.length < p + f ∧ vs l = (vsa f l p).map (xs ++ ·)
theorem VS.start (l : List UInt8) : VS l [] 0 := ⟨Nat.zero_le _, Nat.le_refl _, l.length + 1, by omega, by simp [vs]⟩
theorem VS.none_ {l : List UInt8} {xs : List Nat} {p : Nat} (h : VS l xs p) (hp : p < l.length) (hn : rdv 0 (l.drop p) = none) : vs l = none := by
  obtain ⟨h1, -, f, h2, h3⟩ := h
  cases f with
  | zero => omega
  | succ f => rw [h3]; simp [vsa, hn]; omega
theorem VS.last {l : List UInt8} {xs : List Nat} {p : Nat} (h : VS l xs p) (hp : p = l.length) : vs l = some xs := by
  obtain ⟨h1, -, f, h2, h3⟩ := h
  cases f with
  | zero => omega
  | succ f => rw [h3]; simp [vsa, hp]
theorem VS.more {l : List UInt8} {xs : List Nat} {p x n : Nat} (h : VS l xs p) (hp : p < l.length) (hn : rdv 0 (l.drop p) = some (x, n)) : VS l (xs ++ [x]) (p + n) := by
  have hq := rdv_len _ _ _ _ hn
  rw [List.length_drop] at hq
  obtain ⟨h1, h4, f, h2, h3⟩ := h
  cases f with
  | zero => omega
  | succ f =>
    refine ⟨by omega, by simp; omega, f, by omega, ?_⟩
    rw [h3]
    have : vsa (f + 1) l p = (vsa f l (p + n)).map (x :: ·) := by
      conv => lhs; unfold vsa
      rw [if_neg (by omega), hn]
    rw [this]
    cases vsa f l (p + n) <;> simp

def ints1 (num : Int) (f : Fld) : Option (List Nat) := if f.num ≠ num then some [] else if f.wire = 0 then some [f.x] else if f.wire = 2 then vs f.data else none
def ints (num : Int) : List Fld → Option (List Nat)
  | [] => some []
  | f :: r => match ints1 num f with
    | none => none
    | some a => (ints num r).map (a ++ ·)
def IN (num : Int) (fs : List Fld) (k : Nat) (out : List Nat) : Prop := k ≤ fs.length ∧ out.length + bulkF (fs.drop k) ≤ bulkF fs ∧ ints num fs = (ints num (fs.drop k)).map (out ++ ·)
theorem IN.start (num : Int) (fs : List Fld) : IN num fs 0 [] := ⟨Nat.zero_le _, by simp, by simp⟩
theorem IN.last {num : Int} {fs : List Fld} {k : Nat} {out : List Nat} (h : IN num fs k out) (hk : k = fs.length) : ints num fs = some out := by
  rw [h.2.2, hk, List.drop_length]; simp [ints]
theorem IN.bad {num : Int} {fs : List Fld} {k : Nat} {out : List Nat} (h : IN num fs k out) (hk : k < fs.length) (hb : ints1 num fs[k] = none) : ints num fs = none := by
  rw [h.2.2, List.drop_eq_getElem_cons hk]; simp [ints, hb]
theorem IN.step {num : Int} {fs : List Fld} {k : Nat} {out a : List Nat} (h : IN num fs k out) (hk : k < fs.length) (hb : ints1 num fs[k] = some a) (hl : a.length ≤ fs[k].data.length + 1) : IN num fs (k + 1) (out ++ a) := by
  obtain ⟨h1, h2, h3⟩ := h
  rw [List.drop_eq_getElem_cons hk] at h2 h3
  refine ⟨by omega, ?_, ?_⟩
  · simp only [bulkF] at h2
    rw [List.length_append]; omega
  · rw [h3]
    simp only [ints, hb]
    cases ints num (fs.drop (k + 1)) <;> simp
theorem ints_append (num : Int) (a b : List Fld) : ints num (a ++ b) = match ints num a with
    | none => none
    | some x => (ints num b).map (x ++ ·) := by
  induction a with
  | nil => simp [ints]
  | cons f a ih =>
    simp only [List.cons_append, ints]
    cases ints1 num f with
    | none => rfl
    | some y =>
      simp only [ih]
      cases ints num a with
      | none => simp
      | some x => simp; cases ints num b <;> simp
theorem bulk_append (a b : List Fld) : bulkF (a ++ b) = bulkF a + bulkF b := by
  induction a with
  | nil => simp [bulkF]
  | cons f a ih => simp only [List.cons_append, bulkF, ih]; omega
theorem ints_len {num : Int} {fs : List Fld} {xs : List Nat} (h : ints num fs = some xs) : xs.length ≤ bulkF fs := by
  induction fs generalizing xs with
  | nil => simp [ints] at h; subst h; simp
  | cons f fs ih =>
    simp only [ints] at h
    cases h1 : ints1 num f with
    | none => rw [h1] at h; simp at h
    | some a =>
      rw [h1] at h
      cases h2 : ints num fs with
      | none => rw [h2] at h; simp at h
      | some b =>
        rw [h2] at h
        simp only [Option.map_some, Option.some.injEq] at h
        have hb := ih h2
        have ha : a.length ≤ f.data.length + 1 := by
          unfold ints1 at h1
          split at h1
          · simp at h1; subst h1; simp
          · split at h1
            · simp at h1; subst h1; simp
            · split at h1
              · have hv : ∀ f l p xs, p ≤ l.length → vsa f l p = some xs → xs.length ≤ l.length - p := by
                  intro f
                  induction f with
                  | zero => intro l p xs _ h; simp [vsa] at h
                  | succ f ihf =>
                    intro l p xs hp h
                    unfold vsa at h
                    split at h
                    · simp at h; subst h; simp
                    · split at h
                      · simp at h
                      · rename_i x n hr
                        have hn := rdv_len _ _ _ _ hr
                        rw [List.length_drop] at hn
                        simp only [Option.map_eq_some_iff] at h
                        obtain ⟨ys, hy, rfl⟩ := h
                        have := ihf _ _ _ (by omega) hy
                        simp; omega
                have := hv _ _ _ _ (Nat.zero_le _) h1
                omega
              · cases h1
        subst h
        simp only [bulkF, List.length_append]; omega
end Go.Proofs.YtlhpmlknmgocoaaGreat

/- The contract of pbuf.Ints. -/
namespace Go.Proofs.YtlhpmlknmgocoaaGreat
open Go.RowKit

/-- a row of numbers of the call's own -/
def nums (k : IntKind) (l : List Nat) : List Value := l.map fun (x : Nat) => .int k (x : Int)
def ON (k : IntKind) (w : World) (base : Nat) (e : TypeId) (v : Value) (l : List Nat) : Prop := w.ownsRow base e 1 v l.length (nums k l)
theorem nums_append (k : IntKind) (a b : List Nat) : nums k (a ++ b) = nums k a ++ nums k b := List.map_append
theorem ON.nil (k : IntKind) (w : World) (base : Nat) (e : TypeId) : ON k w base e (.slice none 0 0) [] := World.ownsRow_nil w base _ _
theorem ON.below {k : IntKind} {w w' : World} {base B : Nat} {e : TypeId} {v : Value} {l : List Nat} (h : ON k w base e v l) (hb : Below B w w') (hB : w.heap.size ≤ B) : ON k w' base e v l :=
  World.ownsRow.kept (row := none) h ⟨hb.os, hb.tape, hb.output, hb.size, fun k hk _ => hb.block k (by omega)⟩ (by cases v.ownBlock <;> simp)
theorem ON.alloc {k : IntKind} {w : World} {base : Nat} {e : TypeId} {v : Value} {l : List Nat} (h : ON k w base e v l) (o : Obj) : ON k (w.alloc o) base e v l := World.ownsRow.alloc h o
theorem ON.form {k : IntKind} {w : World} {base : Nat} {e : TypeId} {v : Value} {l : List Nat} (h : ON k w base e v l) : ∃ A n cap, v = .slice A n cap ∧ n = l.length ∧ n ≤ cap ∧ cap ≤ maxLen ∧ Reads w w.heap.size 1 A n (nums k l) := by
  have h0 := h
  rcases h.2 with ⟨rfl, hn⟩ | ⟨g, cap, cur, rfl, hb, hg, hnc, hcm, hcs, htake⟩
  · refine ⟨none, 0, 0, rfl, by omega, by omega, by unfold maxLen; omega, ?_⟩
    rw [List.eq_nil_of_length_eq_zero hn]
    exact Reads.none_
  · exact ⟨_, _, cap, rfl, rfl, hnc, hcm, Reads.of_own h0⟩
theorem ON.grownB {k : IntKind} {w w' : World} {e : TypeId} {v : Value} {base : Nat} {l : List Nat} (hown : ON k w base e v l) (hg : w.grownBy w' v.ownBlock) (hbase : base ≤ w.heap.size) {a : World} {B : Nat} (hB : B ≤ base) (hb : Below B a w) : Below B a w' :=
  hb.grown hg (by omega) (fun k hk => by have := (World.ownsRow.lt hown k hk).1; omega)

theorem append_num {k : IntKind} {T e : TypeId} {bytes : Nat} (ht : Tryz.prog.underlying T = some (.slice e)) (hinfo : (Tryz.prog.info? e).map (fun i => (i.zero, i.size, i.bytes)) = some (some (.int k 0), 1, bytes)) (hby : bytes ≤ 8)
    {ops : Array Oper} {rest : List Oper} {o : Oper} {a : Act} {Q : Exit → Act → World → Prop} {w : World} (hgd : o.guard = none) (s x : Operand)
    (ho : o.op = .call { callee := .builtin .append, args := #[s, x], argTypes := #[T, T] }) {base : Nat} {v : Value} {l : List Nat} (hown : ON k w base e v l) (hs : a.eval s = v)
    {n : Int} {g : Nat} (hx : a.eval x = .slice (some ⟨g, 0, none⟩) 1 1) (hgs : g = w.heap.size) (c : Nat) (hc : n = (c : Int)) (hlen : l.length + 1 ≤ 17592186044416) (hbase : base ≤ w.heap.size)
    (h : ∀ v' w', ON k w' base e v' (l ++ [c]) → w.grownBy w' v.ownBlock → (v'.ownBlock = v.ownBlock ∨ ∃ g, v'.ownBlock = some g ∧ w.heap.size ≤ g) → wpList Tryz.prog ops Q rest (a.put o.dst v') w') :
    wpList Tryz.prog ops Q (o :: rest) a (w.alloc (.cells #[.int k n] e)) := by
  obtain ⟨i0, hi0, hz0, hz1, hz2⟩ := info_parts hinfo
  subst hc hgs
  refine wpList_append_any _ hgd s x T ho base e i0 (.int k 0) 1 bytes ht hi0 hz0 hz1 hz2 rfl (by omega) v l.length (nums k l) hs (hown.alloc _) (w.heap.size + 1) _ 1 1
    [.int k c] hx (Reads.new_ w _ _ 1 1 rfl) (by intro u hu; simp at hu; subst hu; rfl) (by unfold maxLen; omega) (fit_small (by have := Nat.mul_le_mul_left (l.length + 1) hby; omega)) (by simp; omega) ?_
  intro v' w' hown' hg hat
  refine h v' w' ?_ ((World.grownBy_alloc w _ _).trans hg) ?_
  · unfold ON
    rw [nums_append, List.length_append]
    exact hown'
  · rcases hat with e | e
    · exact .inl e
    · exact .inr ⟨_, e, by simp⟩
theorem info_64 : (Tryz.prog.info? 60).map (fun i => (i.zero, i.size, i.bytes)) = some (some (.int .u64 0), 1, 8) := by kernel_rfl

def INrel (num : Int) (fs : List Fld) (w : World) (out i : Value) (wr : World) : Prop := ∃ (k : Nat) (xs : List Nat), i = .int .i64 (k : Int) ∧ IN num fs k xs ∧ ON .u64 wr w.heap.size 60 out xs ∧ Below w.heap.size w wr
def VSrel (l : List UInt8) (xs : List Nat) (g : Nat) (cs : Array Value) (w : World) (out p : Value) (wr : World) : Prop :=
  ∃ (q : Nat) (ys : List Nat), p = .int .i64 (q : Int) ∧ VS l ys q ∧ ON .u64 wr w.heap.size 60 out (xs ++ ys) ∧ Below w.heap.size w wr ∧ Blk wr g 108 cs

def IntsR (w : World) (r : Option (List Nat)) (e : Ending) (w' : World) : Prop := ∃ v, e = .returned (.tuple #[v, .int .i64 (match r with | none => 6 | some _ => 0)]) ∧ ON .u64 w' w.heap.size 60 v (r.getD []) ∧ Below w.heap.size w w'
theorem IntsR.bad {w w' : World} {r : Option (List Nat)} (h : r = none) (hb : Below w.heap.size w w') : IntsR w r (.returned (.tuple #[.slice none 0 0, .int .i64 6])) w' := by
  subst h; exact ⟨_, rfl, ON.nil _ _ _ _, hb⟩
theorem IntsR.good {w w' : World} {r : Option (List Nat)} {xs : List Nat} {v : Value} (h : r = some xs) (ho : ON .u64 w' w.heap.size 60 v xs) (hb : Below w.heap.size w w') : IntsR w r (.returned (.tuple #[v, .int .i64 0])) w' := by
  subst h; exact ⟨_, rfl, ho, hb⟩

set_option maxRecDepth 100000 in
set_option maxHeartbeats 1600000 in
theorem ints_any (A : Option Addr) (cap : Nat) (fs : List Fld) (num : Int) (w : World) (hm : cap ≤ maxLen) (hcap : fs.length ≤ cap) (hb : RF w w.heap.size A fs) (hbulk : bulkF fs + 1 ≤ 17592186044416) :
    Calls Tryz.prog 105 #[.slice A fs.length cap, .int .i64 num] w (IntsR w (ints num fs)) := by
  unfold maxLen at hm
  go_enter Tryz.func105, Tryz.ntmps105
  go_wp2
  go_loopw [6, 15] (fun out i wr => INrel num fs w out i wr) (fun _ i _ => fs.length - (intOf i).toNat)
  case atStart => exact ⟨0, [], rfl, IN.start _ _, ON.nil _ _ _ _, Below.refl _ _⟩
  case round =>
    obtain ⟨k, xs, rfl, hin, hown, hbel⟩ := hrel
    have hsz := hbel.size
    have hk := hin.1
    have hxl : xs.length ≤ bulkF fs := by have := hin.2.1; omega
    by_cases hlt : k < fs.length
    · obtain ⟨b, off, dv, rfl, hbb, hdv, a0', a1', a2', a3'⟩ := hb.at_ hlt
      have a0 := (hbel.cell (p := ⟨b, _, none⟩) hbb).trans a0'
      have a1 := (hbel.cell (p := ⟨b, _, none⟩) hbb).trans a1'
      have a2 := (hbel.cell (p := ⟨b, _, none⟩) hbb).trans a2'
      have a3 := (hbel.cell (p := ⟨b, _, none⟩) hbb).trans a3'
      clear a0' a1' a2' a3'
      have HB := Lib.hid (hin.bad hlt)
      have HS := Lib.hid (fun a => hin.step (a := a) hlt)
      obtain ⟨Ad, cd, rfl, hld, hmd, hrd⟩ := hdv
      have hdb : xs.length + fs[k].data.length + 1 ≤ bulkF fs := by
        have := hin.2.1
        rw [List.drop_eq_getElem_cons hlt] at this
        simp only [bulkF] at this
        omega
      clear hin
      generalize fs[k] = f at *
      obtain ⟨fnum, wire, x, data⟩ := f
      dsimp only at *
      by_cases hnum : fnum = num
      · subst hnum
        have hq : (fnum != fnum) = false := by simp
        by_cases hw0 : wire = 0
        · subst hw0
          have HV : Hid (ints1 fnum ⟨fnum, 0, x, data⟩ = some [x]) := by show _ = _; simp [ints1]
          go_wp2_with (at_builtin
                       go_must (refine append_num (by kernel_rfl) info_64 (Nat.le_refl _) rfl _ _ rfl (hown.alloc _) rfl rfl (by simp) x rfl (by omega) (by simp; omega) ?_; intro v2 w2 ho2 hg2 ha2))
          go_roundw
          case rel => exact ⟨k + 1, _, by go_num, HS.out _ HV.out (by simp), ho2, (hown.alloc _).grownB hg2 (by simp; omega) (Nat.le_refl _) (hbel.alloc hsz _)⟩
          case measure => simp [intOf]; omega
        · by_cases hw2 : wire = 2
          · subst hw2
            have HV : Hid (ints1 fnum ⟨fnum, 2, x, data⟩ = vs data) := by show _ = _; simp [ints1]
            go_wp2
            go_loopw [6, 9] (fun out p wr' => VSrel data xs wr.heap.size #[.int .i64 fnum, .int .i64 2, .int .u64 x, .slice Ad data.length cd] w out p wr') (fun _ p _ => data.length - (intOf p).toNat)
            case atStart => exact ⟨0, [], rfl, VS.start _, by rw [List.append_nil]; exact hown.alloc _, hbel.alloc hsz _, Blk.new _ _ _⟩
            case round =>
              clear hown
              obtain ⟨q, ys, rfl, hvs, hown, hbel1, hblk⟩ := hrel
              obtain ⟨g0, g1, g2, g3⟩ := blk4 hblk
              have hz1 := hbel1.size
              have hq1 := hvs.1
              have hq2 := hvs.2.1
              have hxy : (xs ++ ys).length ≤ bulkF fs := by rw [List.length_append]; omega
              have hr1 := (hrd.below hbel1)
              by_cases hend : q < data.length
              · have hr := hrd
                cases ht : rdv 0 (data.drop q) with
                | none =>
                  have HR := Lib.hid (rvar_none hq1 ht)
                  have HN := Lib.hid (hvs.none_ hend ht)
                  clear ht
                  go_wp2_with (go_at_call 84; refine (rdvar_at HR hld hmd hr1).mono ?_; rintro e w' ⟨rfl, rfl⟩)
                  go_ret2
                  exact IntsR.bad (HB.out (by rw [HV.out, HN.out])) hbel1
                | some r =>
                  obtain ⟨y, n⟩ := r
                  have HR := Lib.hid (rvar_some hq1 ht)
                  have HM := Lib.hid (hvs.more hend ht)
                  have hn := rdv_len _ _ _ _ ht
                  rw [List.length_drop] at hn
                  clear ht
                  go_wp2_with (first
                    | (go_at_call 84; refine (rdvar_at HR hld hmd hr1).mono ?_; rintro e w' ⟨rfl, rfl⟩)
                    | (at_builtin
                       go_must (refine append_num (by kernel_rfl) info_64 (Nat.le_refl _) rfl _ _ rfl hown rfl rfl rfl y rfl (by omega) (by omega) ?_; intro v2 w2 ho2 hg2 ha2)))
                  go_roundw
                  case rel => exact ⟨q + n, ys ++ [y], by go_num, HM.out, by rw [← List.append_assoc]; exact ho2, hown.grownB hg2 hz1 (Nat.le_refl _) hbel1, hblk.grown hg2 (own_blk_ne hown hblk (by decide)).symm⟩
                  case measure => simp [intOf]; omega
              · have HL := Lib.hid (hvs.last (by omega))
                go_wp2
                go_roundw
                case rel => exact ⟨k + 1, _, by go_num, HS.out ys (by rw [HV.out, HL.out]) (by show ys.length ≤ data.length + 1; omega), hown, hbel1⟩
                case measure => simp [intOf]; omega
          · have HV : Hid (ints1 fnum ⟨fnum, wire, x, data⟩ = none) := by show _ = _; simp [ints1, hw0, hw2]
            go_wp2
            go_ret2
            exact IntsR.bad (HB.out HV.out) (hbel.alloc hsz _)
      · have hq : (fnum != num) = true := by simpa using hnum
        have HV : Hid (ints1 num ⟨fnum, wire, x, data⟩ = some []) := by show _ = _; simp [ints1, hnum]
        go_wp2
        go_roundw
        case rel => exact ⟨k + 1, _, by go_num, HS.out [] HV.out (by simp), by rw [List.append_nil]; exact hown.alloc _, hbel.alloc hsz _⟩
        case measure => simp [intOf]; omega
    · have HL := Lib.hid (hin.last (by omega))
      go_wp2
      go_ret2
      exact IntsR.good HL.out hown hbel
end Go.Proofs.YtlhpmlknmgocoaaGreat

/- The plain law of reading two messages one behind the other. -/
namespace Go.Proofs.YtlhpmlknmgocoaaGreat

theorem rdv_pre (m : List UInt8) : ∀ (l : List UInt8) (i : Nat) (r : Nat × Nat), rdv i l = some r → rdv i (l ++ m) = some r := by
  intro l
  induction l with
  | nil => intro i r h; simp [rdv] at h
  | cons c l ih =>
    intro i r h
    rw [List.cons_append]
    unfold rdv at h ⊢
    split at h
    · cases h
    · rename_i h1
      rw [if_neg h1]
      split at h
      · rename_i h2
        rw [if_pos h2]; exact h
      · rename_i h2
        rw [if_neg h2]
        simp only [Option.map_eq_some_iff] at h
        obtain ⟨q, hq, rfl⟩ := h
        rw [ih _ _ hq]; rfl

theorem part_pre {a : List UInt8} (b : List UInt8) {p wire : Nat} {r : Nat × List UInt8 × Nat} (hp : p ≤ a.length) (h : part a p wire = some r) : part (a ++ b) p wire = some r := by
  have hd : (a ++ b).drop p = a.drop p ++ b := List.drop_append_of_le_length hp
  unfold part at h ⊢
  rw [List.length_append]
  split at h
  · rename_i hw
    rw [if_pos hw]
    simp only [Option.map_eq_some_iff] at h
    obtain ⟨q, hq, rfl⟩ := h
    rw [hd, rdv_pre b _ _ _ hq]; rfl
  · rename_i hw
    rw [if_neg hw]
    split at h
    · rename_i hw1
      rw [if_pos hw1]
      split at h
      · rename_i hl
        rw [if_pos (by omega), hd, List.take_append_of_le_length (by rw [List.length_drop]; omega)]
        exact h
      · cases h
    · rename_i hw1
      rw [if_neg hw1]
      split at h
      · rename_i hw5
        rw [if_pos hw5]
        split at h
        · rename_i hl
          rw [if_pos (by omega), hd, List.take_append_of_le_length (by rw [List.length_drop]; omega)]
          exact h
        · cases h
      · rename_i hw5
        rw [if_neg hw5]
        split at h
        · rename_i hw2
          rw [if_pos hw2]
          simp only [Option.bind_eq_some_iff] at h
          obtain ⟨q, hq, h⟩ := h
          have hn := rdv_len _ _ _ _ hq
          rw [List.length_drop] at hn
          rw [hd, rdv_pre b _ _ _ hq]
          simp only [Option.bind_some]
          split at h
          · rename_i hle
            rw [if_pos (by omega), List.drop_append_of_le_length (by omega), List.take_append_of_le_length (by rw [List.length_drop]; omega)]
            exact h
          · cases h
        · cases h

theorem part_shift (a b : List UInt8) (p wire : Nat) : part (a ++ b) (a.length + p) wire = (part b p wire).map fun r => (r.1, r.2.1, a.length + r.2.2) := by
  have hd : ∀ k, (a ++ b).drop (a.length + k) = b.drop k := fun k => by rw [List.drop_append, List.drop_of_length_le (by omega)]; simp
  unfold part
  rw [List.length_append]
  split
  · rw [hd]
    cases rdv 0 (b.drop p) <;> simp [Nat.add_assoc]
  · split
    · by_cases hl : p + 8 ≤ b.length
      · rw [if_pos (by omega), if_pos (by omega), hd]; simp [Nat.add_assoc]
      · rw [if_neg (by omega), if_neg (by omega)]; rfl
    · split
      · by_cases hl : p + 4 ≤ b.length
        · rw [if_pos (by omega), if_pos (by omega), hd]; simp [Nat.add_assoc]
        · rw [if_neg (by omega), if_neg (by omega)]; rfl
      · split
        · rw [hd]
          cases hr : rdv 0 (b.drop p) with
          | none => rfl
          | some q =>
            simp only [Option.bind_some]
            by_cases hl : p + q.2 + q.1 ≤ b.length
            · rw [if_pos (by omega), if_pos (by omega), show a.length + p + q.2 = a.length + (p + q.2) by omega, hd]; simp [Nat.add_assoc]
            · rw [if_neg (by omega), if_neg (by omega)]; rfl
        · rfl

theorem rdF_pre {a : List UInt8} (b : List UInt8) {p : Nat} {r : Fld × Nat} (hp : p ≤ a.length) (h : rdF a p = some r) : rdF (a ++ b) p = some r := by
  cases ht : rdv 0 (a.drop p) with
  | none => rw [rdF_none ht] at h; cases h
  | some t =>
    obtain ⟨tag, n⟩ := t
    have hn := rdv_len _ _ _ _ ht
    rw [List.length_drop] at hn
    have ht' : rdv 0 ((a ++ b).drop p) = some (tag, n) := by rw [List.drop_append_of_le_length hp]; exact rdv_pre b _ _ _ ht
    by_cases hbad : tag / 8 < 1 ∨ 536870911 < tag / 8
    · rw [rdF_bad ht hbad] at h; cases h
    · rw [rdF_part ht hbad] at h
      rw [rdF_part ht' hbad]
      simp only [Option.map_eq_some_iff] at h
      obtain ⟨q, hq, rfl⟩ := h
      rw [part_pre b (by omega) hq]; rfl

theorem rdF_shift (a b : List UInt8) (p : Nat) : rdF (a ++ b) (a.length + p) = (rdF b p).map fun r => (r.1, a.length + r.2) := by
  have hd : (a ++ b).drop (a.length + p) = b.drop p := by rw [List.drop_append, List.drop_of_length_le (by omega)]; simp
  cases ht : rdv 0 (b.drop p) with
  | none => rw [rdF_none ht, rdF_none (by rw [hd]; exact ht)]; rfl
  | some t =>
    obtain ⟨tag, n⟩ := t
    have ht' : rdv 0 ((a ++ b).drop (a.length + p)) = some (tag, n) := by rw [hd]; exact ht
    by_cases hbad : tag / 8 < 1 ∨ 536870911 < tag / 8
    · rw [rdF_bad ht hbad, rdF_bad ht' hbad]; rfl
    · rw [rdF_part ht hbad, rdF_part ht' hbad, Nat.add_assoc, part_shift]
      cases part b (p + n) (tag % 8) <;> rfl

theorem rda_shift (a b : List UInt8) : ∀ f p, rda f (a ++ b) (a.length + p) = rda f b p := by
  intro f
  induction f with
  | zero => intro p; rfl
  | succ f ih =>
    intro p
    unfold rda
    rw [List.length_append]
    by_cases he : p = b.length
    · rw [if_pos (by omega), if_pos he]
    · rw [if_neg (by omega), if_neg he, rdF_shift]
      cases rdF b p with
      | none => rfl
      | some r => simp only [Option.map_some]; rw [ih]

theorem rda_enough (l : List UInt8) : ∀ f g p, p ≤ l.length → l.length < p + f → l.length < p + g → rda f l p = rda g l p := by
  intro f
  induction f with
  | zero => intro g p hp h _; omega
  | succ f ih =>
    intro g p hp h h'
    cases g with
    | zero => omega
    | succ g =>
      unfold rda
      by_cases he : p = l.length
      · rw [if_pos he, if_pos he]
      · rw [if_neg he, if_neg he]
        cases hr : rdF l p with
        | none => rfl
        | some r =>
          have hq := rdF_le (f := r.1) (q := r.2) hp hr
          simp only
          rw [ih g r.2 hq.2 (by omega) (by omega)]

theorem rda_join (a b : List UInt8) : ∀ f p fs, p ≤ a.length → rda f a p = some fs → ∀ g, (a ++ b).length < p + g → rda g (a ++ b) p = (rd b).map (fs ++ ·) := by
  intro f
  induction f with
  | zero => intro p fs _ h; simp [rda] at h
  | succ f ih =>
    intro p fs hp h g hg
    rw [List.length_append] at hg
    unfold rda at h
    split at h
    · rename_i he
      simp only [Option.some.injEq] at h
      subst h
      have := rda_shift a b g 0
      rw [Nat.add_zero] at this
      rw [he, this, rd, rda_enough b g (b.length + 1) 0 (Nat.zero_le _) (by omega) (by omega)]
      simp
    · rename_i he
      cases g with
      | zero => omega
      | succ g =>
        cases hr : rdF a p with
        | none => rw [hr] at h; cases h
        | some r =>
          rw [hr] at h
          simp only [Option.map_eq_some_iff] at h
          obtain ⟨gs, hgs, rfl⟩ := h
          have hq := rdF_le (f := r.1) (q := r.2) hp hr
          conv => lhs; unfold rda
          rw [if_neg (by rw [List.length_append]; omega), rdF_pre b hp hr]
          simp only
          rw [ih r.2 gs hq.2 hgs g (by rw [List.length_append]; omega)]
          cases rd b <;> simp

/-- two messages, one behind the other, are one -/
theorem rd_join {a b : List UInt8} {fs : List Fld} (h : rd a = some fs) : rd (a ++ b) = (rd b).map (fs ++ ·) := rda_join a b _ 0 fs (Nat.zero_le _) h _ (by omega)
theorem read_join {a b : List UInt8} {fs : List Fld} (hl : a.length + b.length ≤ 4194304) (h : readE a = (fs, 0)) : readE (a ++ b) = match readE b with
    | (gs, er) => if er = 0 then (fs ++ gs, 0) else ([], er) := by
  have ha : rd a = some fs := by
    unfold readE at h
    rw [if_neg (by omega)] at h
    split at h
    · simp at h
    · rename_i fs' hfs
      simp only [Prod.mk.injEq, and_true] at h
      rw [hfs, h]
  unfold readE
  rw [List.length_append, if_neg (by omega), if_neg (by omega), rd_join ha]
  cases rd b <;> simp
end Go.Proofs.YtlhpmlknmgocoaaGreat

/- What PbufJoins needs beside: appends of many fields, and bounds. -/
namespace Go.Proofs.YtlhpmlknmgocoaaGreat
open Go.RowKit

theorem wrF_ge {f : Fld} (h : mayF f = true) : f.data.length + 1 ≤ (wrF f).length := by
  obtain ⟨m, -, -, -, hc⟩ := mayF_cases h
  rcases hc with ⟨-, hd⟩ | ⟨-, hd⟩ | ⟨-, hd, -⟩ | ⟨hw, -⟩
  · rw [hd]; have := wrF_pos f; simpa using this
  · rw [hd]; have := wrF_pos f; simpa using this
  · rw [hd]; have := wrF_pos f; simpa using this
  · have := (vi_len f.data.length).2
    simp only [wrF, hw]
    simp
    omega
theorem bulk_wr {fs : List Fld} (h : ∀ f ∈ fs, mayF f = true) : bulkF fs ≤ (wr fs).length := by
  induction fs with
  | nil => simp [bulkF]
  | cons f fs ih =>
    have h1 := wrF_ge (h f (by simp))
    have h2 := ih fun g hg => h g (by simp [hg])
    simp only [bulkF, wr, List.flatMap_cons, List.length_append] at h2 ⊢
    omega
theorem bulk_read {l : List UInt8} {fs : List Fld} (hl : l.length ≤ 4194304) (h : readE l = (fs, 0)) : bulkF fs ≤ 4194304 := by
  obtain ⟨hw, hle, -⟩ := write_read h
  have hall : ∀ f ∈ fs, mayF f = true := by
    unfold writeE at hw
    split at hw
    · rename_i ha; exact List.all_eq_true.1 ha
    · simp at hw
  have := bulk_wr hall
  omega
theorem read_cases {l : List UInt8} {fs : List Fld} {er : Int} (hl : l.length ≤ 4194304) (h : readE l = (fs, er)) : er = 0 ∨ er = 6 ∧ fs = [] := by
  unfold readE at h
  rw [if_neg (by omega)] at h
  split at h <;> simp only [Prod.mk.injEq] at h
  · exact .inr ⟨h.2.symm, h.1.symm⟩
  · exact .inl h.2.symm

theorem fcells_append : ∀ (fs : List Fld) (ds : List Value) (gs : List Fld) (es : List Value), ds.length = fs.length → fcells (fs ++ gs) (ds ++ es) = fcells fs ds ++ fcells gs es
  | [], [], _, _, _ => by simp [fcells]
  | f :: fs, d :: ds, gs, es, h => by
    have := fcells_append fs ds gs es (by simpa using h)
    simp [fcells, this]
  | [], _ :: _, _, _, h => by simp at h
  | _ :: _, [], _, _, h => by simp at h
theorem fcells_one : ∀ (fs : List Fld) (ds : List Value), (∀ d ∈ ds, d.oneCell' = true) → ∀ u ∈ fcells fs ds, u.oneCell' = true
  | [], _, _, u, hu => by simp [fcells] at hu
  | f :: fs, [], _, u, hu => by simp [fcells] at hu
  | f :: fs, d :: ds, h, u, hu => by
    simp only [fcells, fcell, List.cons_append, List.nil_append, List.mem_cons] at hu
    rcases hu with rfl | rfl | rfl | rfl | hu
    · rfl
    · rfl
    · rfl
    · exact h _ (by simp)
    · exact fcells_one fs ds (fun d hd => h d (by simp [hd])) u hu

theorem OFD.made {D : Value → List UInt8 → Prop} (w : World) (base : Nat) (e : TypeId) (h : base ≤ w.heap.size) : OFD D (w.alloc (.cells #[] e)) base e (.slice (some ⟨w.heap.size, 0, none⟩) 0 0) [] :=
  ⟨[], rfl, World.ownsRow_made w #[] 0 h (by unfold maxLen; omega) rfl, fun _ h => absurd h (Nat.not_lt_zero _)⟩

theorem append_fields {P : Program} {ops : Array Oper} {rest : List Oper} {o : Oper} {a : Act} {Q : Exit → Act → World → Prop} {w : World} {B : Nat}
    (T e : TypeId) (ht : P.underlying T = some (.slice e)) (hinfo : (P.info? e).map (fun i => (i.zero, i.size, i.bytes)) = some (some (.agg #[.int .i64 0, .int .i64 0, .int .u64 0, .slice none 0 0]), 4, 48))
    (hgd : o.guard = none) (s x : Operand)
    (ho : o.op = .call { callee := .builtin .append, args := #[s, x], argTypes := #[T, T] }) {base : Nat} {v : Value} {fs : List Fld} (hown : OFR B w base e v fs) (hs : a.eval s = v)
    {A : Option Addr} {n cap : Nat} (gs : List Fld) (hx : a.eval x = .slice A n cap) (hn : n = gs.length) (hr : RF w B A gs)
    (hlen : fs.length + gs.length ≤ 2900000000000) (hbase : base ≤ w.heap.size) (hB : B ≤ base)
    (h : ∀ v' w', OFR B w' base e v' (fs ++ gs) → w.grownBy w' v.ownBlock → Below B w w' → wpList P ops Q rest (a.put o.dst v') w') :
    wpList P ops Q (o :: rest) a w := by
  obtain ⟨i0, hi0, hz0, hz1, hz2⟩ := info_parts hinfo
  subst hn
  obtain ⟨ds, h1, h2, h3⟩ := hown
  obtain ⟨es, k1, k2, k3⟩ := hr
  refine wpList_append_any _ hgd s x T ho base e i0 _ 4 48 ht hi0 hz0 hz1 hz2 rfl (by omega) v fs.length (fcells fs ds) hs h2 B A gs.length cap
    (fcells gs es) hx k2 (fcells_one gs es ?_) (by unfold maxLen; omega) (fit_small (by omega)) hbase ?_
  · intro d hd
    obtain ⟨i, hi, rfl⟩ := List.getElem_of_mem hd
    obtain ⟨A', c', he, -⟩ := k3 i (by omega) hi
    rw [he]; rfl
  · intro v' w' hown' hg hat
    have hbl : Below B w w' := (Below.refl B w).grown hg (by omega) (fun k hk => by have := (World.ownsRow.lt h2 k hk).1; omega)
    refine h v' w' ⟨ds ++ es, by simp [h1, k1], ?_, ?_⟩ hg hbl
    · rw [fcells_append fs ds gs es h1, List.length_append]
      exact hown'
    · intro i hi hi'
      by_cases hlt : i < fs.length
      · rw [List.getElem_append_left hlt, List.getElem_append_left (by omega)]
        exact (h3 i hlt (by omega)).below hbl
      · have hi2 : i - fs.length < gs.length := by rw [List.length_append] at hi; omega
        have := (k3 (i - fs.length) hi2 (by omega)).below hbl
        rw [List.getElem_append_right (by omega), List.getElem_append_right (by omega)]
        simpa [h1] using this
theorem OFR.form {B : Nat} {w : World} {base : Nat} {e : TypeId} {v : Value} {fs : List Fld} (h : OFR B w base e v fs) (hB : B ≤ w.heap.size) : ∃ A n cap, v = .slice A n cap ∧ n = fs.length ∧ n ≤ cap ∧ cap ≤ maxLen ∧ RF w w.heap.size A fs := by
  obtain ⟨A, cap, h1, h2, h3, h4⟩ := OFD.form h fun _ _ h => DV.more h hB
  exact ⟨A, _, cap, h1, rfl, h2, h3, h4⟩
theorem OF.form2 {w : World} {base : Nat} {e : TypeId} {v : Value} {fs : List Fld} (h : OF w base e v fs) : ∃ A n cap, v = .slice A n cap ∧ n = fs.length ∧ n ≤ cap ∧ cap ≤ maxLen ∧ RF w w.heap.size A fs := by
  obtain ⟨A, cap, h1, h2, h3, h4⟩ := h.form
  exact ⟨A, _, cap, h1, rfl, h2, h3, h4⟩
theorem ints_at {A : Option Addr} {n cap : Nat} {w : World} {num : Int} (fs : List Fld) {r : Option (List Nat)} (hr : ints num fs = r) (hn : n = fs.length) (hcap : n ≤ cap) (hm : cap ≤ maxLen) (hb : RF w w.heap.size A fs) (hbulk : bulkF fs + 1 ≤ 17592186044416) :
    Calls Tryz.prog 105 #[.slice A n cap, .int .i64 num] w (IntsR w r) := by
  subst hn hr
  exact ints_any _ _ _ _ _ hm hcap hb hbulk
theorem ints_no {A : Option Addr} {n cap : Nat} {w : World} {num : Int} (fs : List Fld) (hr : Hid (ints num fs = none)) (hn : n = fs.length) (hcap : n ≤ cap) (hm : cap ≤ maxLen) (hb : RF w w.heap.size A fs) (hbulk : bulkF fs + 1 ≤ 17592186044416) :
    Calls Tryz.prog 105 #[.slice A n cap, .int .i64 num] w fun e w' => (∃ A c, e = .returned (.tuple #[.slice A 0 c, .int .i64 6])) ∧ Below w.heap.size w w' := by
  refine (ints_at fs hr.out hn hcap hm hb hbulk).mono ?_
  rintro e w' ⟨v, rfl, ho, hbl⟩
  obtain ⟨A', n', c', rfl, hn', -⟩ := ho.form
  simp only [Option.getD_none, List.length_nil] at hn'
  subst hn'
  exact ⟨⟨_, _, rfl⟩, hbl⟩
theorem ints_yes {A : Option Addr} {n cap : Nat} {w : World} {num : Int} (fs : List Fld) {xs : List Nat} (hr : Hid (ints num fs = some xs)) (hn : n = fs.length) (hcap : n ≤ cap) (hm : cap ≤ maxLen) (hb : RF w w.heap.size A fs) (hbulk : bulkF fs + 1 ≤ 17592186044416) :
    Calls Tryz.prog 105 #[.slice A n cap, .int .i64 num] w fun e w' => (∃ A c, e = .returned (.tuple #[.slice A xs.length c, .int .i64 0])) ∧ Below w.heap.size w w' := by
  refine (ints_at fs hr.out hn hcap hm hb hbulk).mono ?_
  rintro e w' ⟨v, rfl, ho, hbl⟩
  obtain ⟨A', n', c', rfl, hn', -⟩ := ho.form
  subst hn'
  exact ⟨⟨_, _, rfl⟩, hbl⟩
def IntsK (num : Int) (fs : List Fld) (n : Nat) (h : Int) : Prop := (ints num fs = none ∧ n = 0 ∧ h = 6) ∨ ∃ xs, ints num fs = some xs ∧ n = xs.length ∧ h = 0
theorem ints_both {A : Option Addr} {n cap : Nat} {w : World} (fs : List Fld) (num : Int) (hn : n = fs.length) (hcap : n ≤ cap) (hm : cap ≤ maxLen) (hb : RF w w.heap.size A fs) (hbulk : bulkF fs + 1 ≤ 17592186044416) :
    Calls Tryz.prog 105 #[.slice A n cap, .int .i64 num] w fun e w' => (∃ A m c h, e = .returned (.tuple #[.slice A m c, .int .i64 h]) ∧ Hid (IntsK num fs m h)) ∧ Below w.heap.size w w' := by
  refine (ints_at fs rfl hn hcap hm hb hbulk).mono ?_
  rintro e w' ⟨v, rfl, ho, hbl⟩
  obtain ⟨A', n', c', rfl, hn', -⟩ := ho.form
  refine ⟨⟨_, _, _, _, rfl, Lib.hid ?_⟩, hbl⟩
  cases hr : ints num fs with
  | none => rw [hr] at hn'; exact .inl ⟨hr, by simpa using hn', rfl⟩
  | some xs => rw [hr] at hn'; exact .inr ⟨xs, hr, by simpa using hn', rfl⟩
theorem ints_three {num : Int} {fs gs : List Fld} {n m k : Nat} {a b c : Int} (h0 : Hid (IntsK num fs n a)) (h1 : Hid (IntsK num gs m b)) (h2 : Hid (IntsK num (fs ++ gs) k c)) (hf : bulkF fs ≤ 17592186044416) (hg : bulkF gs ≤ 17592186044416) :
    (a = 6 ∧ b = 6 ∧ c = 6) ∨ (a = 6 ∧ b = 0 ∧ c = 6) ∨ (a = 0 ∧ b = 6 ∧ c = 6) ∨ (a = 0 ∧ b = 0 ∧ c = 0 ∧ IntKind.i64.wrap ((n : Int) + (m : Int)) = (k : Int)) := by
  have hz := ints_append num fs gs
  rcases h0.out with ⟨e0, -, rfl⟩ | ⟨x, e0, rfl, rfl⟩ <;> rcases h1.out with ⟨e1, -, rfl⟩ | ⟨y, e1, rfl, rfl⟩ <;> rcases h2.out with ⟨e2, -, rfl⟩ | ⟨z, e2, rfl, rfl⟩ <;>
    rw [e0] at hz <;> simp [e1, e2] at hz ⊢
  have hxl := ints_len e0
  have hyl := ints_len e1
  subst hz
  rw [List.length_append, IntWalk.i64_in _ (by omega)]
  omega
end Go.Proofs.YtlhpmlknmgocoaaGreat
