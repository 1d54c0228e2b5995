/- Words for rows of fields: four cells each, the last one a slice of bytes. -/
import Derived.Test.YthhanpfcnaokpaaPart
namespace Go.Proofs.Ythhanpfcnaokpaa
open Go.RowKit

/-- a field's four cells; dv: its bytes' slice value -/
def fcell (f : Fld) (dv : Value) : List Value := [.int .i64 f.num, .int .i64 f.wire, .int .u64 (f.x : Int), dv]
def fcells : List Fld → List Value → List Value
  | f :: fs, d :: ds => fcell f d ++ fcells fs ds
  | _, _ => []
theorem fcells_len : ∀ (fs : List Fld) (ds : List Value), ds.length = fs.length → (fcells fs ds).length = fs.length * 4
  | [], [], _ => rfl
  | f :: fs, d :: ds, h => by
    have := fcells_len fs ds (by simpa using h)
    simp [fcells, fcell, this]; omega
  | [], _ :: _, h => by simp at h
  | _ :: _, [], h => by simp at h
theorem fcells_snoc (f : Fld) (d : Value) : ∀ (fs : List Fld) (ds : List Value), ds.length = fs.length → fcells (fs ++ [f]) (ds ++ [d]) = fcells fs ds ++ fcell f d
  | [], [], _ => by simp [fcells]
  | g :: fs, e :: ds, h => by
    have := fcells_snoc f d fs ds (by simpa using h)
    simp [fcells, this]
  | [], _ :: _, h => by simp at h
  | _ :: _, [], h => by simp at h
theorem fcells_get : ∀ (fs : List Fld) (ds : List Value) (_ : ds.length = fs.length) (i j : Nat) (h : i < fs.length) (h' : i < ds.length) (_ : j < 4), (fcells fs ds)[i * 4 + j]? = (fcell fs[i] ds[i])[j]?
  | f :: fs, d :: ds, h, 0, j, _, _, hj => by
    simp only [fcells, Nat.zero_mul, Nat.zero_add, List.getElem_cons_zero]
    rw [List.getElem?_append_left (by simpa [fcell] using hj)]
  | f :: fs, d :: ds, h, i + 1, j, h1, h2, hj => by
    have := fcells_get fs ds (by simpa using h) i j (by simpa using h1) (by simpa using h2) hj
    simp only [fcells, List.getElem_cons_succ]
    rw [List.getElem?_append_right (by simp [fcell]; omega), ← this]
    congr 1
    simp [fcell]; omega

/-- the same, its length behind a name -/
theorem OB.form2 {w : World} {base : Nat} {v : Value} {l : List UInt8} (h : OB w base v l) : ∃ A n cap, v = .slice A n cap ∧ Hid (n = l.length) ∧ n ≤ cap ∧ cap ≤ maxLen ∧ RB w w.heap.size A l := by
  obtain ⟨A, cap, h1, h2, h3, h4⟩ := h.form
  exact ⟨A, l.length, cap, h1, rfl, h2, h3, h4⟩
theorem blk4 {w : World} {g : Nat} {t : TypeId} {c0 c1 c2 c3 : Value} (hk : Blk w g t #[c0, c1, c2, c3]) :
    w.cell? ⟨g, 0, none⟩ = some c0 ∧ w.cell? ⟨g, 1, none⟩ = some c1 ∧ w.cell? ⟨g, 2, none⟩ = some c2 ∧ w.cell? ⟨g, 3, none⟩ = some c3 := ⟨hk.cell 0, hk.cell 1, hk.cell 2, hk.cell 3⟩

/-- a slice value that reads as bytes, below block B -/
def DV (w : World) (B : Nat) (dv : Value) (l : List UInt8) : Prop := ∃ A cap, dv = .slice A l.length cap ∧ l.length ≤ cap ∧ cap ≤ maxLen ∧ RB w B A l
theorem DV.below {w w' : World} {B : Nat} {dv : Value} {l : List UInt8} (h : DV w B dv l) (hb : Below B w w') : DV w' B dv l := by
  obtain ⟨A, cap, h1, h2, h3, h4⟩ := h
  exact ⟨A, cap, h1, h2, h3, h4.below hb⟩
theorem DV.more {w : World} {B B' : Nat} {dv : Value} {l : List UInt8} (h : DV w B dv l) (hb : B ≤ B') : DV w B' dv l := by
  obtain ⟨A, cap, h1, h2, h3, h4⟩ := h
  exact ⟨A, cap, h1, h2, h3, h4.more hb⟩
theorem OB.dv {w : World} {base : Nat} {v : Value} {l : List UInt8} (h : OB w base v l) : DV w w.heap.size v l := by
  obtain ⟨A, cap, h1, h2, h3, h4⟩ := h.form
  exact ⟨A, cap, h1, h2, h3, h4⟩

/-- the four cells of a block, behind what only makes new blocks -/
theorem cells_grown {w w1 : World} {g : Nat} {t : TypeId} {c0 c1 c2 c3 : Value} (hg : w.grownBy w1 none) (hk : Blk w g t #[c0, c1, c2, c3]) :
    w1.cell? ⟨g, 0, none⟩ = some c0 ∧ w1.cell? ⟨g, 1, none⟩ = some c1 ∧ w1.cell? ⟨g, 2, none⟩ = some c2 ∧ w1.cell? ⟨g, 3, none⟩ = some c3 ∧
      w1.frozen? ⟨g, 0, none⟩ = false ∧ w1.frozen? ⟨g, 1, none⟩ = false ∧ w1.frozen? ⟨g, 2, none⟩ = false ∧ w1.frozen? ⟨g, 3, none⟩ = false ∧ g < w1.heap.size := by
  have hk1 := hk.grown hg (by simp)
  exact ⟨hk1.cell 0, hk1.cell 1, hk1.cell 2, hk1.cell 3, hk1.frozen 0, hk1.frozen 1, hk1.frozen 2, hk1.frozen 3, hk1.lt⟩
theorem Blk.new' (w : World) (t : TypeId) (cs : Array Value) {g : Nat} (h : g = w.heap.size) : Blk (w.alloc (.cells cs t)) g t cs := by subst h; exact Blk.new w t cs

/-- a slice of fields that is read -/
def RF (w : World) (B : Nat) (A : Option Addr) (fs : List Fld) : Prop :=
  ∃ ds : List Value, ds.length = fs.length ∧ Reads w B 4 A fs.length (fcells fs ds) ∧ ∀ i (h : i < fs.length) (h' : i < ds.length), DV w B ds[i] fs[i].data

theorem RF.below {w w' : World} {B : Nat} {A : Option Addr} {fs : List Fld} (h : RF w B A fs) (hb : Below B w w') : RF w' B A fs := by
  obtain ⟨ds, h1, h2, h3⟩ := h
  exact ⟨ds, h1, h2.below hb, fun i h h' => (h3 i h h').below hb⟩
theorem RF.more {w : World} {B B' : Nat} {A : Option Addr} {fs : List Fld} (h : RF w B A fs) (hb : B ≤ B') : RF w B' A fs := by
  obtain ⟨ds, h1, h2, h3⟩ := h
  exact ⟨ds, h1, h2.more hb, fun i h h' => (h3 i h h').more hb⟩
theorem RF.at_ {w : World} {B : Nat} {A : Option Addr} {fs : List Fld} (h : RF w B A fs) {k : Nat} (hk : k < fs.length) :
    ∃ b off dv, A = some ⟨b, off, none⟩ ∧ b < B ∧ DV w B dv fs[k].data ∧ w.cell? ⟨b, off + k * 4, none⟩ = some (.int .i64 fs[k].num) ∧ w.cell? ⟨b, off + k * 4 + 1, none⟩ = some (.int .i64 fs[k].wire) ∧
      w.cell? ⟨b, off + k * 4 + 2, none⟩ = some (.int .u64 (fs[k].x : Int)) ∧ w.cell? ⟨b, off + k * 4 + 3, none⟩ = some dv := by
  obtain ⟨ds, h1, h2, h3⟩ := h
  obtain ⟨ad, hA, hb, hc⟩ := h2.2 (by omega)
  have h0 := hc 0 _ (fcells_get fs ds h1 0 0 (by omega) (by omega) (by omega))
  obtain ⟨b, off, spot⟩ := ad
  have hspot : spot = none := by simpa [Addr.add] using World.cell?_spot h0
  subst hspot
  have hkd : k < ds.length := by omega
  refine ⟨b, off, ds[k], hA, hb, h3 k hk hkd, ?_, ?_, ?_, ?_⟩
  · have := hc (k * 4 + 0) _ (fcells_get fs ds h1 k 0 hk hkd (by omega))
    rw [Addr.add_lit] at this; simpa using this
  · have := hc (k * 4 + 1) _ (fcells_get fs ds h1 k 1 hk hkd (by omega))
    rw [Addr.add_lit] at this; simpa [Nat.add_assoc] using this
  · have := hc (k * 4 + 2) _ (fcells_get fs ds h1 k 2 hk hkd (by omega))
    rw [Addr.add_lit] at this; simpa [Nat.add_assoc] using this
  · have := hc (k * 4 + 3) _ (fcells_get fs ds h1 k 3 hk hkd (by omega))
    rw [Addr.add_lit] at this; simpa [Nat.add_assoc] using this

/-- a row of fields of the call's own, of element type e; what the bytes' slices are: D -/
def OFD (D : Value → List UInt8 → Prop) (w : World) (base : Nat) (e : TypeId) (v : Value) (fs : List Fld) : Prop :=
  ∃ ds : List Value, ds.length = fs.length ∧ w.ownsRow base e 4 v fs.length (fcells fs ds) ∧ ∀ i (h : i < fs.length) (h' : i < ds.length), D ds[i] fs[i].data
/-- its bytes are of the call's own, too, each in a block of its own (made one behind the other) -/
def OF (w : World) (base : Nat) (e : TypeId) (v : Value) (fs : List Fld) : Prop :=
  ∃ ds : List Value, ds.length = fs.length ∧ w.ownsRow base e 4 v fs.length (fcells fs ds) ∧ (∀ i (h : i < fs.length) (h' : i < ds.length), OB w base ds[i] fs[i].data) ∧
    ∀ i j (h : i < ds.length) (h' : j < ds.length), i < j → ∀ a b, ds[i].ownBlock = some a → ds[j].ownBlock = some b → a < b
theorem OF.nil (w : World) (base : Nat) (e : TypeId) : OF w base e (.slice none 0 0) [] := ⟨[], rfl, World.ownsRow_nil w base _ _, ⟨fun _ h => absurd h (Nat.not_lt_zero _), fun _ _ h => absurd h (Nat.not_lt_zero _)⟩⟩
theorem OF.ofd {w : World} {base : Nat} {e : TypeId} {v : Value} {fs : List Fld} (h : OF w base e v fs) : OFD (OB w base) w base e v fs := by
  obtain ⟨ds, h1, h2, h3, -⟩ := h
  exact ⟨ds, h1, h2, h3⟩
/-- its bytes are read, below block B -/
def OFR (B : Nat) (w : World) (base : Nat) (e : TypeId) (v : Value) (fs : List Fld) : Prop := OFD (DV w B) w base e v fs

theorem OFD.nil {D : Value → List UInt8 → Prop} (w : World) (base : Nat) (e : TypeId) : OFD D w base e (.slice none 0 0) [] := ⟨[], rfl, World.ownsRow_nil w base _ _, fun i h => by cases h⟩
theorem OFD.form {D : Value → List UInt8 → Prop} {w : World} {base : Nat} {e : TypeId} {v : Value} {fs : List Fld} (h : OFD D w base e v fs) (hD : ∀ dv l, D dv l → DV w w.heap.size dv l) :
    ∃ A cap, v = .slice A fs.length cap ∧ fs.length ≤ cap ∧ cap ≤ maxLen ∧ RF w w.heap.size A fs := by
  obtain ⟨ds, h1, h2, h3⟩ := h
  have h0 := h2
  rcases h2.2 with ⟨rfl, hn⟩ | ⟨g, cap, cur, rfl, hb, hg, hnc, hcm, hcs, htake⟩
  · exact ⟨none, 0, by rw [hn], by omega, by unfold maxLen; omega, ds, h1, ⟨h2.1, fun h => by omega⟩, fun i h h' => hD _ _ (h3 i h h')⟩
  · exact ⟨_, cap, rfl, hnc, hcm, ds, h1, Reads.of_own h0, fun i h h' => hD _ _ (h3 i h h')⟩
theorem OF.form {w : World} {base : Nat} {e : TypeId} {v : Value} {fs : List Fld} (h : OF w base e v fs) : ∃ A cap, v = .slice A fs.length cap ∧ fs.length ≤ cap ∧ cap ≤ maxLen ∧ RF w w.heap.size A fs := OFD.form h.ofd fun _ _ h => OB.dv h

/-- rows of unlike element types never share a block -/
theorem own_ne {w : World} {base base' : Nat} {e e' : TypeId} {s s' n n' : Nat} {v v' : Value} {xs xs' : List Value} (h : w.ownsRow base e s v n xs) (h' : w.ownsRow base' e' s' v' n' xs') (hne : e ≠ e') : v.ownBlock = none ∨ v.ownBlock ≠ v'.ownBlock := by
  rcases h.2 with ⟨rfl, _⟩ | ⟨g, cap, cur, rfl, _, hg, _⟩
  · exact .inl rfl
  · right
    rcases h'.2 with ⟨rfl, _⟩ | ⟨g', cap', cur', rfl, _, hg', _⟩
    · simp [Value.ownBlock]
    · intro he
      simp only [Value.ownBlock, Option.some.injEq] at he
      subst he
      rw [hg] at hg'
      injection hg' with hg'
      injection hg' with _ ht
      exact hne ht

theorem OB.kept {w w' : World} {base : Nat} {v : Value} {l : List UInt8} {row : Option Nat} (h : OB w base v l) (hg : w.grownBy w' row) (hne : v.ownBlock = none ∨ v.ownBlock ≠ row) : OB w' base v l := World.ownsRow.kept h hg hne
theorem OB.lt {w : World} {base : Nat} {v : Value} {l : List UInt8} (h : OB w base v l) : ∀ k, v.ownBlock = some k → base ≤ k ∧ k < w.heap.size := World.ownsRow.lt h
theorem OB.below {w w' : World} {base B : Nat} {v : Value} {l : List UInt8} (h : OB w base v l) (hb : Below B w w') (hB : w.heap.size ≤ B) : OB w' base v l :=
  h.kept (row := none) ⟨hb.os, hb.tape, hb.output, hb.size, fun k hk _ => hb.block k (by omega)⟩ (by cases v.ownBlock <;> simp)
theorem OB.mono {w : World} {base base' : Nat} {v : Value} {l : List UInt8} (h : OB w base v l) (hb : base' ≤ base) : OB w base' v l := by
  refine ⟨h.1, ?_⟩
  rcases h.2 with h | ⟨g, cap, cur, h1, h2, h3⟩
  · exact .inl h
  · exact .inr ⟨g, cap, cur, h1, by omega, h3⟩
theorem OB.alloc {w : World} {base : Nat} {v : Value} {l : List UInt8} (h : OB w base v l) (o : Obj) : OB (w.alloc o) base v l := World.ownsRow.alloc h o

theorem OB.setLow {w : World} {base : Nat} {v : Value} {l : List UInt8} (h : OB w base v l) {p : Addr} (hp : p.block < base) (u : Value) : OB (w.setCell p u) base v l := ownsRow_setCell_below h hp u

theorem OF.below {w w' : World} {base B : Nat} {e : TypeId} {v : Value} {fs : List Fld} (h : OF w base e v fs) (hb : Below B w w') (hB : w.heap.size ≤ B) : OF w' base e v fs := by
  obtain ⟨ds, h1, h2, h3, h4⟩ := h
  exact ⟨ds, h1, h2.kept (row := none) ⟨hb.os, hb.tape, hb.output, hb.size, fun k hk _ => hb.block k (by omega)⟩ (by cases v.ownBlock <;> simp), fun i h h' => (h3 i h h').below hb hB, h4⟩
theorem OFR.below {w w' : World} {base B B' : Nat} {e : TypeId} {v : Value} {fs : List Fld} (h : OFR B' w base e v fs) (hb : Below B w w') (hB : w.heap.size ≤ B) (hB' : B' ≤ B) : OFR B' w' base e v fs := by
  obtain ⟨ds, h1, h2, h3⟩ := h
  exact ⟨ds, h1, h2.kept (row := none) ⟨hb.os, hb.tape, hb.output, hb.size, fun k hk _ => hb.block k (by omega)⟩ (by cases v.ownBlock <;> simp), fun i h h' => (h3 i h h').below (hb.mono hB')⟩

section
variable {P : Program} {ops : Array Oper} {rest : List Oper} {o : Oper} {a : Act} {Q : Exit → Act → World → Prop} {w : World}
/-- an append of one field, boxed just ahead -/
theorem append_fieldD {D D' : Value → List UInt8 → Prop} (T e : TypeId) (ht : P.underlying T = some (.slice e)) (hinfo : (P.info? e).map (fun i => (i.zero, i.size, i.bytes)) = some (some (.agg #[.int .i64 0, .int .i64 0, .int .u64 0, .slice none 0 0]), 4, 48))
    (hgd : o.guard = none) (s x : Operand)
    (ho : o.op = .call { callee := .builtin .append, args := #[s, x], argTypes := #[T, T] }) {base : Nat} {v : Value} {fs : List Fld} (hown : OFD D w base e v fs) (hs : a.eval s = v)
    {n0 n1 n2 : Int} {dv : Value} {g : Nat} (hx : a.eval x = .slice (some ⟨g, 0, none⟩) 1 1) (hgs : g = w.heap.size) (f : Fld) (hn0 : n0 = f.num) (hn1 : n1 = f.wire) (hn2 : n2 = (f.x : Int)) (hdv : ∃ A n c, dv = .slice A n c)
    (hlen : fs.length + 1 ≤ 2900000000000) (hbase : base ≤ w.heap.size)
    (h : ∀ v' w', (∀ (_ : D' dv f.data) (_ : ∀ dv l, D dv l → D' dv l), OFD D' w' base e v' (fs ++ [f])) → w.grownBy w' v.ownBlock → (v'.ownBlock = v.ownBlock ∨ ∃ g, v'.ownBlock = some g ∧ w.heap.size ≤ g) → wpList P ops Q rest (a.put o.dst v') w') :
    wpList P ops Q (o :: rest) a (w.alloc (.cells #[.int .i64 n0, .int .i64 n1, .int .u64 n2, dv] e)) := by
  obtain ⟨i0, hi0, hz0, hz1, hz2⟩ := info_parts hinfo
  subst hn0 hn1 hn2 hgs
  obtain ⟨ds, h1, h2, h3⟩ := hown
  refine wpList_append_any _ hgd s x T ho base e i0 _ 4 48 ht hi0 hz0 hz1 hz2 rfl (by omega) v fs.length (fcells fs ds) hs (h2.alloc _) (w.heap.size + 1) _ 1 1
    (fcell f dv) hx (Reads.new_ w _ (fcell f dv) 4 1 rfl) ?_ (by unfold maxLen; omega) (fit_small (by omega)) (by simp; omega) ?_
  · intro u hu
    obtain ⟨A, n, c, rfl⟩ := hdv
    simp only [fcell, List.mem_cons, List.not_mem_nil, or_false] at hu
    rcases hu with rfl | rfl | rfl | rfl <;> rfl
  · intro v' w' hown' hg hat
    refine h v' w' (fun hd hDD => ⟨ds ++ [dv], by simp [h1], ?_, ?_⟩) ((World.grownBy_alloc w _ _).trans hg) ?_
    · rw [fcells_snoc f dv fs ds h1, List.length_append]
      exact hown'
    · intro i hi hi'
      by_cases hlt : i < fs.length
      · have := hDD _ _ (h3 i hlt (by omega))
        rwa [List.getElem_append_left hlt, List.getElem_append_left (by omega)]
      · have hie : i = fs.length := by simp at hi; omega
        subst hie
        rw [List.getElem_append_right (by omega), List.getElem_append_right (by omega)]
        simpa [h1] using hd
    · rcases hat with e | e
      · exact .inl e
      · exact .inr ⟨_, e, by simp⟩

/-- the same where all bytes are of the call's own: the new field's behind all the others -/
theorem append_field {w0 : World} (T e : TypeId) (ht : P.underlying T = some (.slice e)) (hinfo : (P.info? e).map (fun i => (i.zero, i.size, i.bytes)) = some (some (.agg #[.int .i64 0, .int .i64 0, .int .u64 0, .slice none 0 0]), 4, 48))
    (he : 5 ≠ e) (hgd : o.guard = none) (s x : Operand)
    (ho : o.op = .call { callee := .builtin .append, args := #[s, x], argTypes := #[T, T] }) {base : Nat} {v : Value} {fs : List Fld} (hown0 : OF w0 base e v fs) (hbw : Below w0.heap.size w0 w) (hs : a.eval s = v)
    {n0 n1 n2 : Int} {dv : Value} {g : Nat} (hx : a.eval x = .slice (some ⟨g, 0, none⟩) 1 1) (hgs : g = w.heap.size) (f : Fld) (hn0 : n0 = f.num) (hn1 : n1 = f.wire) (hn2 : n2 = (f.x : Int)) (hd : OB w w0.heap.size dv f.data)
    (hlen : fs.length + 1 ≤ 2900000000000) (hbase : base ≤ w0.heap.size)
    (h : ∀ v' w', OF w' base e v' (fs ++ [f]) → w.grownBy w' v.ownBlock → (v'.ownBlock = v.ownBlock ∨ ∃ g, v'.ownBlock = some g ∧ w.heap.size ≤ g) → wpList P ops Q rest (a.put o.dst v') w') :
    wpList P ops Q (o :: rest) a (w.alloc (.cells #[.int .i64 n0, .int .i64 n1, .int .u64 n2, dv] e)) := by
  obtain ⟨i0, hi0, hz0, hz1, hz2⟩ := info_parts hinfo
  obtain ⟨ds, h1, e2, e3, h4⟩ := hown0
  have hsz := hbw.size
  have hb0 : w0.grownBy w none := ⟨hbw.os, hbw.tape, hbw.output, hbw.size, fun k hk _ => hbw.block k hk⟩
  have h2 : w.ownsRow base e 4 v fs.length (fcells fs ds) := e2.kept hb0 (by cases v.ownBlock <;> simp)
  have h3 : ∀ i (h : i < fs.length) (h' : i < ds.length), OB w base ds[i] fs[i].data := fun i h h' => (e3 i h h').below hbw (Nat.le_refl _)
  subst hn0 hn1 hn2 hgs
  obtain ⟨A, cap, hdv, -⟩ := hd.form
  refine wpList_append_any _ hgd s x T ho base e i0 _ 4 48 ht hi0 hz0 hz1 hz2 rfl (by omega) v fs.length (fcells fs ds) hs (h2.alloc _) (w.heap.size + 1) _ 1 1
    (fcell f dv) hx (Reads.new_ w _ (fcell f dv) 4 1 rfl) ?_ (by unfold maxLen; omega) (fit_small (by omega)) (by simp; omega) ?_
  · intro u hu
    subst hdv
    simp only [fcell, List.mem_cons, List.not_mem_nil, or_false] at hu
    rcases hu with rfl | rfl | rfl | rfl <;> rfl
  · intro v' w' hown' hg hat
    have hgr := (World.grownBy_alloc w (.cells (fcell f dv).toArray e) v.ownBlock).trans hg
    refine h v' w' ⟨ds ++ [dv], by simp [h1], ?_, ?_, ?_⟩ hgr ?_
    · rw [fcells_snoc f dv fs ds h1, List.length_append]
      exact hown'
    · intro i hi hi'
      have hD : OB w base (ds ++ [dv])[i] (fs ++ [f])[i].data := by
        by_cases hlt : i < fs.length
        · have := h3 i hlt (by omega)
          rwa [List.getElem_append_left hlt, List.getElem_append_left (by omega)]
        · have hie : i = fs.length := by simp at hi; omega
          subst hie
          rw [List.getElem_append_right (by omega), List.getElem_append_right (by omega)]
          simpa [h1] using hd.mono hbase
      exact hD.kept hgr (own_ne hD h2 he)
    · intro i j hi hj hij a b ha hb
      by_cases hjl : j < ds.length
      · rw [List.getElem_append_left (by omega)] at ha
        rw [List.getElem_append_left hjl] at hb
        exact h4 i j (by omega) hjl hij a b ha hb
      · have hje : j = ds.length := by simp at hj; omega
        subst hje
        rw [List.getElem_append_left (by omega)] at ha
        rw [List.getElem_append_right (by omega)] at hb
        have h5 := ((e3 i (by omega) (by omega)).lt a ha).2
        have h6 := (hd.lt b (by simpa using hb)).1
        omega
    · rcases hat with e | e
      · exact .inl e
      · exact .inr ⟨_, e, by simp⟩
end
theorem grown_belowF {D : Value → List UInt8 → Prop} {w w' : World} {e : TypeId} {v : Value} {base : Nat} {fs : List Fld} (hown : OFD D w base e v fs) (hg : w.grownBy w' v.ownBlock) (hbase : base ≤ w.heap.size) {a : World} {B : Nat} (hB : B ≤ base) (hb : Below B a w) : Below B a w' :=
  hb.grown hg (by omega) (fun k hk => by obtain ⟨ds, h1, h2, h3⟩ := hown; have := (World.ownsRow.lt h2 k hk).1; omega)

theorem info_f : (Try.prog.info? 40).map (fun i => (i.zero, i.size, i.bytes)) = some (some (.agg #[.int .i64 0, .int .i64 0, .int .u64 0, .slice none 0 0]), 4, 48) := by kernel_rfl
theorem info_rf : (Try.prog.info? 55).map (fun i => (i.zero, i.size, i.bytes)) = some (some (.agg #[.int .i64 0, .int .i64 0, .int .u64 0, .slice none 0 0]), 4, 48) := by kernel_rfl
end Go.Proofs.Ythhanpfcnaokpaa
