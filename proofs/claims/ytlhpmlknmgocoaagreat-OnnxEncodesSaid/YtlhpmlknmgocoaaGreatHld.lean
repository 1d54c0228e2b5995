/- Words for data in memory: a datum is one cell's value, or a slice whose rows' cells are data, in blocks of a set. -/
import Derived.Test.YtlhpmlknmgocoaaGreatPB1
namespace Go.Proofs.YtlhpmlknmgocoaaGreat
set_option linter.unusedSimpArgs false
set_option linter.unusedVariables false
open Go.RowKit

/-- a cell's value · a slice of rows of n cells each, all rows' cells one behind the other -/
inductive Dat
  | leaf (v : Value)
  | row (n : Nat) (ds : List Dat)

/-- v is the datum d in the world w; its rows lie in blocks of S -/
inductive Held (w : World) (S : Nat → Prop) : Dat → Value → Prop
  | leaf (v : Value) : Held w S (.leaf v) v
  | row (n : Nat) (ds : List Dat) (A : Option Addr) (m c : Nat) (us : List Value) (hl : ds.length = m * n) (hu : us.length = ds.length) (hc : m ≤ c) (hm : c ≤ maxLen) (hb : m ≤ 140737488355328)
      (ha : 0 < ds.length → ∃ ad, A = some ad ∧ S ad.block ∧ ∀ j u, us[j]? = some u → w.cell? (ad.add j) = some u)
      (hd : ∀ j (h : j < ds.length) (h' : j < us.length), Held w S ds[j] us[j]) : Held w S (.row n ds) (.slice A m c)

section
variable {w w' : World} {S S' : Nat → Prop} {d : Dat} {v : Value}
theorem Held.keep (h : Held w S d v) (hS : ∀ b, S b → S' b) (hk : ∀ (p : Addr) u, S p.block → w.cell? p = some u → w'.cell? p = some u) : Held w' S' d v := by
  induction h with
  | leaf v => exact .leaf v
  | row n ds A m c us hl hu hc hm hb ha hd ih =>
    refine .row n ds A m c us hl hu hc hm hb (fun h0 => ?_) ih
    obtain ⟨ad, e, hs, hcell⟩ := ha h0
    exact ⟨ad, e, hS _ hs, fun j u hj => hk _ _ (by rw [block_of_add]; exact hs) (hcell j u hj)⟩
theorem Held.mono (h : Held w S d v) (hS : ∀ b, S b → S' b) : Held w S' d v := h.keep hS fun _ _ _ h => h
theorem Held.grown (h : Held w S d v) {row : Option Nat} (hg : w.grownBy w' row) (hr : ∀ b, S b → some b ≠ row) : Held w' S d v :=
  h.keep (fun _ h => h) fun _ _ hs hc => hg.cell hc (hr _ hs)
theorem Held.grown0 (h : Held w S d v) (hg : w.grownBy w' none) : Held w' S d v := h.grown hg fun _ _ => by simp
theorem Held.under (h : Held w S d v) {B : Nat} (hb : Below B w w') (hB : ∀ b, S b → b < B) : Held w' S d v :=
  h.keep (fun _ h => h) fun _ _ hs hc => (hb.cell (hB _ hs)).trans hc
/-- behind a call that has turned nothing of what was there -/
theorem Held.past (h : Held w S d v) (hb : Below w.heap.size w w') : Held w' S d v :=
  h.keep (fun _ h => h) fun _ _ _ hc => (hb.cell (World.block_lt_of_cell? w _ hc)).trans hc
theorem Held.alloc (h : Held w S d v) (o : Obj) : Held (w.alloc o) S d v := h.grown0 (World.grownBy_alloc w o none)
theorem Held.drew (h : Held w S d v) : Held w.drew S d v := h.keep (fun _ h => h) fun _ _ _ h => h
theorem Held.drewN (h : Held w S d v) (k : Nat) : Held (w.drewN k) S d v := h.keep (fun _ h => h) fun _ _ _ h => h
theorem Held.setCell (h : Held w S d v) {p : Addr} (hp : ¬ S p.block) (u : Value) : Held (w.setCell p u) S d v :=
  h.keep (fun _ h => h) fun q _ hs hc => by
    have hne : q.block ≠ p.block := fun e => hp (e ▸ hs)
    exact (World.cell?_of_block (w := w) (Below.heap_setCell w p u q.block hne)).trans hc
theorem Held.leaf_eq {u : Value} (h : Held w S (.leaf u) v) : v = u := by cases h; rfl
/-- an empty slice -/
theorem Held.nil (w : World) (S : Nat → Prop) (n c : Nat) (A : Option Addr) (hc : c ≤ maxLen) : Held w S (.row n []) (.slice A 0 c) :=
  .row n [] A 0 c [] (by simp) rfl (Nat.zero_le _) hc (by omega) (fun h => absurd h (Nat.not_lt_zero _)) (fun j h => absurd h (Nat.not_lt_zero _))

/-- rows of a kind: n cells each -/
theorem Held.rows {α : Type} {f : α → List Dat} {n : Nat} (hf : ∀ x, (f x).length = n) (hn : 0 < n) {xs : List α} (h : Held w S (.row n (xs.flatMap f)) v) :
    ∃ A c, v = .slice A xs.length c ∧ xs.length ≤ c ∧ c ≤ maxLen ∧ xs.length ≤ 140737488355328 ∧ ∀ k (hk : k < xs.length), ∃ (ad : Addr) (us : List Value), A = some ad ∧ S ad.block ∧ us.length = n ∧
      (∀ j u, us[j]? = some u → w.cell? (ad.add (k * n + j)) = some u) ∧ ∀ j (h : j < (f xs[k]).length) (h' : j < us.length), Held w S (f xs[k])[j] us[j] := by
  have hlen : ∀ ys : List α, (ys.flatMap f).length = ys.length * n := by
    intro ys
    induction ys with
    | nil => simp
    | cons y ys ih => rw [List.flatMap_cons, List.length_append, hf, ih, List.length_cons, Nat.add_mul]; omega
  have hget : ∀ (ys : List α) (k j : Nat) (hk : k < ys.length), j < n → (ys.flatMap f)[k * n + j]? = (f ys[k])[j]? := by
    intro ys
    induction ys with
    | nil => intro k j hk; cases hk
    | cons y ys ih =>
      intro k j hk hj
      rw [List.flatMap_cons]
      cases k with
      | zero => rw [Nat.zero_mul, Nat.zero_add, List.getElem?_append_left (by rw [hf]; exact hj)]; rfl
      | succ k =>
        rw [List.getElem?_append_right (by rw [hf, Nat.add_mul]; omega), hf]
        rw [show (k + 1) * n + j - n = k * n + j by rw [Nat.add_mul]; omega]
        exact ih k j (by simpa using hk) hj
  generalize hd0 : Dat.row n (xs.flatMap f) = d0 at h
  cases h with
  | leaf v => cases hd0
  | row n' ds A m c us hl hu hc hm hb ha hd =>
    injection hd0 with e1 e2
    subst e1 e2
    have hmx : m = xs.length := by
      rw [hlen] at hl
      exact (Nat.eq_of_mul_eq_mul_right hn hl).symm
    subst hmx
    refine ⟨A, c, rfl, hc, hm, hb, fun k hk => ?_⟩
    have hkn : k * n + n ≤ xs.length * n := by
      have : (k + 1) * n ≤ xs.length * n := Nat.mul_le_mul_right n hk
      rw [Nat.add_mul] at this
      omega
    obtain ⟨ad, e, hs, hcell⟩ := ha (by rw [hlen]; omega)
    rw [hlen] at hu
    refine ⟨ad, (us.drop (k * n)).take n, e, hs, by simp; omega, ?_, ?_⟩
    · intro j u hj
      rw [List.getElem?_take] at hj
      split at hj
      · rw [List.getElem?_drop] at hj
        exact hcell _ _ hj
      · cases hj
    · intro j hj hj'
      rw [hf] at hj
      have h1 : k * n + j < (xs.flatMap f).length := by rw [hlen]; omega
      have h2 := hd (k * n + j) h1 (by omega)
      have h3 := hget xs k j hk hj
      rw [List.getElem?_eq_getElem h1, List.getElem?_eq_getElem (by rw [hf]; exact hj)] at h3
      rw [Option.some.inj h3] at h2
      simpa using h2

/-- one cell a row -/
theorem Held.ones {α : Type} {f : α → Dat} {xs : List α} (h : Held w S (.row 1 (xs.map f)) v) :
    ∃ A c, v = .slice A xs.length c ∧ xs.length ≤ c ∧ c ≤ maxLen ∧ xs.length ≤ 140737488355328 ∧ ∀ k (hk : k < xs.length), ∃ b off u, A = some ⟨b, off, none⟩ ∧ S b ∧ w.cell? ⟨b, off + k, none⟩ = some u ∧ Held w S (f xs[k]) u := by
  have h0 : Held w S (.row 1 (xs.flatMap fun x => [f x])) v := by
    have : ∀ ys : List α, ys.flatMap (fun x => [f x]) = ys.map f := fun ys => by induction ys with
      | nil => rfl
      | cons y ys ih => simp [ih]
    rw [this]; exact h
  obtain ⟨A, c, h1, h2, h3, h4, h5⟩ := Held.rows (f := fun x => [f x]) (n := 1) (fun _ => rfl) (by omega) h0
  refine ⟨A, c, h1, h2, h3, h4, fun k hk => ?_⟩
  obtain ⟨ad, us, hA, hs, hl, hc, hd⟩ := h5 k hk
  obtain ⟨ad', us', hA', hs', hl', hc', -⟩ := h5 0 (by omega)
  rw [hA] at hA'
  obtain rfl := Option.some.inj hA'
  match us, hl with
  | [u], _ =>
    match us', hl' with
    | [u'], _ =>
      have hz := hc' 0 u' rfl
      have hu := hc 0 u rfl
      obtain ⟨b, off, spot⟩ := ad
      have hspot : spot = none := by simpa [Addr.add] using World.cell?_spot hz
      subst hspot
      rw [Addr.add_lit] at hu
      exact ⟨b, off, u, hA, hs, by simpa using hu, hd 0 (by simp) (by simp)⟩

/-- a slice of values of one cell, as a row that is read -/
theorem Held.leaves {α : Type} {f : α → Value} {xs : List α} (h : Held w S (.row 1 (xs.map fun x => .leaf (f x))) v) :
    ∃ A c, v = .slice A xs.length c ∧ xs.length ≤ c ∧ c ≤ maxLen ∧ xs.length ≤ 140737488355328 ∧ ∀ k (hk : k < xs.length), ∃ b off, A = some ⟨b, off, none⟩ ∧ S b ∧ w.cell? ⟨b, off + k, none⟩ = some (f xs[k]) := by
  obtain ⟨A, c, h1, h2, h3, h4, h5⟩ := h.ones
  refine ⟨A, c, h1, h2, h3, h4, fun k hk => ?_⟩
  obtain ⟨b, off, u, hA, hs, hc, hd⟩ := h5 k hk
  rw [hd.leaf_eq] at hc
  exact ⟨b, off, hA, hs, hc⟩
end

/-! ### rows of the call's own, under construction -/
def noB : Nat → Prop := fun _ => False
/-- blocks from lo on, ahead of hi -/
def Inb (lo hi : Nat) : Nat → Prop := fun b => lo ≤ b ∧ b < hi
/-- blocks of the call's own that are not v's -/
def Oth (base : Nat) (w : World) (v : Value) : Nat → Prop := fun b => base ≤ b ∧ b < w.heap.size ∧ v.ownBlock ≠ some b
/-- v is a row of the call's own (of elements of type e, n cells each, m of them), whose cells are the data ds, which lie in other blocks of the call's own -/
def HRow (w : World) (base : Nat) (e : TypeId) (n : Nat) (v : Value) (m : Nat) (ds : List Dat) : Prop :=
  ∃ us : List Value, us.length = ds.length ∧ w.ownsRow base e n v m us ∧ ∀ j (h : j < ds.length) (h' : j < us.length), Held w (Oth base w v) ds[j] us[j]

section
variable {w w' : World} {S S' : Nat → Prop} {base : Nat} {e : TypeId} {n m : Nat} {v : Value} {ds : List Dat}
theorem HRow.nil (w : World) (base : Nat) (e : TypeId) (n : Nat) : HRow w base e n (.slice none 0 0) 0 [] :=
  ⟨[], rfl, World.ownsRow_nil w base e n, fun _ h => absurd h (Nat.not_lt_zero _)⟩
theorem HRow.lt (h : HRow w base e n v m ds) : ∀ k, v.ownBlock = some k → base ≤ k ∧ k < w.heap.size := by
  obtain ⟨us, -, h2, -⟩ := h
  exact World.ownsRow.lt h2
/-- behind a call that leaves the call's own blocks as they are -/
theorem HRow.grown (h : HRow w base e n v m ds) {row : Option Nat} (hg : w.grownBy w' row) (hr : ∀ k, row = some k → k < base) : HRow w' base e n v m ds := by
  obtain ⟨us, h1, h2, h3⟩ := h
  refine ⟨us, h1, h2.kept hg ?_, fun j h h' => ((h3 j h h').grown hg fun b hb e => ?_).mono fun b hb => ⟨hb.1, Nat.lt_of_lt_of_le hb.2.1 hg.size, hb.2.2⟩⟩
  · cases hv : v.ownBlock with
    | none => exact .inl rfl
    | some k =>
      right
      intro e
      have h4 := World.ownsRow.lt h2 k hv
      have h5 := hr k e.symm
      omega
  · have h4 := hr b e.symm
    have h5 := hb.1
    omega
/-- what a call has made anew is none of the row's -/
theorem HRow.fresh (h : HRow w base e n v m ds) (hbase : base ≤ w.heap.size) {d : Dat} {u : Value} (hd : Held w' (Inb w.heap.size w'.heap.size) d u) : Held w' (Oth base w' v) d u :=
  hd.mono fun b hb => ⟨Nat.le_trans hbase hb.1, hb.2, fun e => by have := (h.lt b e).2; have := hb.1; omega⟩
/-- its rows are data, in blocks of the call's own -/
theorem HRow.held (h : HRow w base e n v m ds) (hm : m ≤ 140737488355328) : Held w (Inb base w.heap.size) (.row n ds) v := by
  obtain ⟨us, h1, h2, h3⟩ := h
  have hl := h2.1
  rcases h2.2 with ⟨rfl, rfl⟩ | ⟨g, cap, cur, rfl, hb, hg, hnc, hcm, hcs, htake⟩
  · have hd : ds = [] := List.eq_nil_of_length_eq_zero (by rw [← h1, hl]; simp)
    subst hd
    exact Held.nil _ _ _ _ _ (by unfold maxLen; omega)
  · exact .row n ds _ m cap us (by rw [← h1, hl]) h1 hnc hcm hm (fun _ => ⟨_, rfl, ⟨hb, (Array.getElem?_eq_some_iff.1 hg).1⟩, fun j u hj => h2.cells (g := g) rfl j u hj⟩)
      fun j h h' => (h3 j h h').mono fun b hb => ⟨hb.1, hb.2.1⟩
theorem HRow.form (h : HRow w base e n v m ds) : ∃ A c, v = .slice A m c ∧ m ≤ c ∧ c ≤ maxLen := by
  obtain ⟨us, -, h2, -⟩ := h
  rcases h2.2 with ⟨rfl, rfl⟩ | ⟨g, cap, cur, rfl, hb, hg, hnc, hcm, hcs, htake⟩
  · exact ⟨_, _, rfl, by omega, by unfold maxLen; omega⟩
  · exact ⟨_, _, rfl, hnc, hcm⟩
end

section
variable {P : Program} {ops : Array Oper} {rest : List Oper} {o : Oper} {a : Act} {Q : Exit → Act → World → Prop} {w : World}
theorem wp_append_dat {K : Act → World → Prop} (T e : TypeId) (z : Value) (n bytes : Nat) (ht : P.underlying T = some (.slice e)) (hinfo : (P.info? e).map (fun i => (i.zero, i.size, i.bytes)) = some (some z, n, bytes)) (hzs : z.cells.size = n) (hn : 0 < n)
    (s x : Operand)
    (ho : o.op = .call { callee := .builtin .append, args := #[s, x], argTypes := #[T, T] }) {base : Nat} {v : Value} {m : Nat} {ds : List Dat} (hown : HRow w base e n v m ds) (hs : a.eval s = v)
    {g : Nat} (hx : a.eval x = .slice (some ⟨g, 0, none⟩) 1 1) (hgs : g = w.heap.size) (new : List Dat) (us : List Value) (hul : us.length = new.length) (hnl : new.length = n) (hone : ∀ u ∈ us, u.oneCell' = true)
    (hh : ∀ j (h : j < new.length) (h' : j < us.length), Held w (Oth base w v) new[j] us[j])
    (hlen : (m + 1) * bytes ≤ 140737488355328) (h63 : m + 1 ≤ maxLen) (hbase : base ≤ w.heap.size)
    (h : ∀ v' w', HRow w' base e n v' (m + 1) (ds ++ new) → w.grownBy w' v.ownBlock → (v'.ownBlock = v.ownBlock ∨ ∃ g, v'.ownBlock = some g ∧ w.heap.size ≤ g) → K (a.put o.dst v') w') :
    Oper.wp P o a (w.alloc (.cells us.toArray e)) K Q := by
  obtain ⟨i0, hi0, hz0, hz1, hz2⟩ := info_parts hinfo
  subst hgs
  obtain ⟨xs, h1, h2, h3⟩ := hown
  refine wp_append_any _ s x T ho base e i0 z n bytes ht hi0 hz0 hz1 hz2 hzs hn v m xs hs (h2.alloc _) (w.heap.size + 1) _ 1 1
    us hx (Reads.new_ w _ us n 1 (by omega)) hone h63 (fit_small hlen) (by simp; omega) ?_
  intro v' w' hown' hg hat
  have hg' : w.grownBy w' v.ownBlock := (World.grownBy_alloc w _ _).trans hg
  refine h v' w' ⟨xs ++ us, by simp [h1, hul], hown', ?_⟩ hg' ?_
  · have hkeep : ∀ {d : Dat} {u : Value}, Held w (Oth base w v) d u → Held w' (Oth base w' v') d u := fun hd => (hd.grown hg' fun b hb e1 => hb.2.2 e1.symm).mono fun b hb => ⟨hb.1, Nat.lt_of_lt_of_le hb.2.1 hg'.size, by
      rcases hat with e1 | e1
      · rw [e1]; exact hb.2.2
      · rw [e1]
        have := hb.2.1
        simp
        omega⟩
    intro j hj hj'
    by_cases hlt : j < ds.length
    · rw [List.getElem_append_left hlt, List.getElem_append_left (by omega)]
      exact hkeep (h3 j hlt (by omega))
    · rw [List.length_append] at hj hj'
      rw [List.getElem_append_right (by omega), List.getElem_append_right (by omega)]
      have := hkeep (hh (j - ds.length) (by omega) (by omega))
      simpa [h1] using this
  · rcases hat with e1 | e1
    · exact .inl e1
    · exact .inr ⟨_, e1, by simp⟩

/-- an append of one element, boxed just ahead -/
theorem append_dat (T e : TypeId) (z : Value) (n bytes : Nat) (ht : P.underlying T = some (.slice e)) (hinfo : (P.info? e).map (fun i => (i.zero, i.size, i.bytes)) = some (some z, n, bytes)) (hzs : z.cells.size = n) (hn : 0 < n)
    (hgd : o.guard = none) (s x : Operand)
    (ho : o.op = .call { callee := .builtin .append, args := #[s, x], argTypes := #[T, T] }) {base : Nat} {v : Value} {m : Nat} {ds : List Dat} (hown : HRow w base e n v m ds) (hs : a.eval s = v)
    {g : Nat} (hx : a.eval x = .slice (some ⟨g, 0, none⟩) 1 1) (hgs : g = w.heap.size) (new : List Dat) (us : List Value) (hul : us.length = new.length) (hnl : new.length = n) (hone : ∀ u ∈ us, u.oneCell' = true)
    (hh : ∀ j (h : j < new.length) (h' : j < us.length), Held w (Oth base w v) new[j] us[j])
    (hlen : (m + 1) * bytes ≤ 140737488355328) (h63 : m + 1 ≤ maxLen) (hbase : base ≤ w.heap.size)
    (h : ∀ v' w', HRow w' base e n v' (m + 1) (ds ++ new) → w.grownBy w' v.ownBlock → (v'.ownBlock = v.ownBlock ∨ ∃ g, v'.ownBlock = some g ∧ w.heap.size ≤ g) → wpList P ops Q rest (a.put o.dst v') w') :
    wpList P ops Q (o :: rest) a (w.alloc (.cells us.toArray e)) :=
  wpList_plain hgd fun _ hK => wp_append_dat T e z n bytes ht hinfo hzs hn s x ho hown hs hx hgs new us hul hnl hone hh hlen h63 hbase fun v' w' h2 h3 h4 => hK _ _ (h v' w' h2 h3 h4)
end

/-! ### what the texts of pbuf say of memory, as data -/
def datB (l : List UInt8) : Dat := .row 1 (l.map fun c => .leaf (.int .u8 (c.toNat : Int)))
/-- a string's value -/
def strV (l : List UInt8) : Value := .string ⟨l.toArray⟩
section
variable {w w' : World} {S : Nat → Prop} {v : Value}
theorem Held.dv {l : List UInt8} (h : Held w S (datB l) v) : DV w w.heap.size v l := by
  obtain ⟨A, c, rfl, h2, h3, h4, h5⟩ := h.leaves
  refine ⟨A, c, rfl, h2, h3, by rw [byt_len]; omega, fun hn => ?_⟩
  obtain ⟨b, off, rfl, -, hc⟩ := h5 0 hn
  refine ⟨_, rfl, World.block_lt_of_cell? w _ hc, fun j u hj => ?_⟩
  have hjl : j < l.length := by
    have := (List.getElem?_eq_some_iff.1 hj).1
    rwa [byt_len] at this
  rw [byt_get l j hjl] at hj
  obtain rfl := Option.some.inj hj
  obtain ⟨b', off', e, -, hc'⟩ := h5 j hjl
  injection e with e
  injection e with e1 e2
  subst e1 e2
  rw [Addr.add_lit]
  exact hc'
theorem OB.held {base : Nat} {l : List UInt8} (h : OB w base v l) (hm : l.length ≤ 140737488355328) : Held w (Inb base w.heap.size) (datB l) v := by
  have : HRow w base 5 1 v l.length (l.map fun c => .leaf (.int .u8 (c.toNat : Int))) := by
    refine ⟨byt l, by simp [byt], h, fun j hj hj' => ?_⟩
    simp only [byt, List.getElem_map]
    exact .leaf _
  exact this.held hm
end
end Go.Proofs.YtlhpmlknmgocoaaGreat
