import Derived.Test.YtlhpmlknmgocoaaGreatRows
import Derived.WalkKit
import Derived.Lib.Hide
import Derived.Laws.OwnMore
import Derived.Deep.AppendLies
import Derived.Deep.Draws
import Derived.Laws.Rows
import Derived.Maps.AppendAt
import Derived.RegionTactic
import Derived.BigQuiet
import Derived.Deep.QuietTactic
import Derived.Laws.Bits64b
import Derived.Laws.BitsLemmas
import Derived.Deep.DeepMust
/- Words for memory: a slice that reads as a list of cells (nil let in), a block known whole, an append onto a row of the call's own. (Sections 1 to 3 of the guide's page of words offered for copying; behind them my own words for bytes.) -/
namespace Go.Proofs.YtlhpmlknmgocoaaGreat
set_option linter.unusedSimpArgs false
set_option linter.unusedVariables false
open Go.RowKit

theorem block_of_add (a : Addr) (n : Nat) : (a.add n).block = a.block := by unfold Addr.add; split <;> rfl
theorem add_of_add (a : Addr) (i j : Nat) : (a.add i).add j = a.add (i + j) := by
  unfold Addr.add
  by_cases hi : i = 0 <;> by_cases hj : j = 0 <;> simp [hi, hj, Nat.add_assoc]

def Reads (w : World) (B size : Nat) (A : Option Addr) (n : Nat) (xs : List Value) : Prop :=
  xs.length = n * size ∧ (0 < n → ∃ ad, A = some ad ∧ ad.block < B ∧ ∀ j u, xs[j]? = some u → w.cell? (ad.add j) = some u)

section
variable {w w' : World} {B B' size n : Nat} {A : Option Addr} {xs : List Value}
theorem Reads.none_ : Reads w B size A 0 [] := ⟨by simp, fun h => absurd h (by omega)⟩
theorem Reads.at_ {k : Nat} (h : Reads w B 1 A n xs) (hk : k < n) : ∃ ad u, A = some ad ∧ ad.block < B ∧ xs[k]? = some u ∧ w.cell? (ad.add k) = some u := by
  obtain ⟨ad, e, hb, hc⟩ := h.2 (by omega)
  have hl : k < xs.length := by have := h.1; omega
  exact ⟨ad, xs[k], e, hb, List.getElem?_eq_getElem hl, hc k _ (List.getElem?_eq_getElem hl)⟩
theorem Reads.keep (h : Reads w B size A n xs) (hk : ∀ p : Addr, p.block < B → w'.cell? p = w.cell? p) : Reads w' B size A n xs :=
  ⟨h.1, fun hn => by
    obtain ⟨ad, e, hb, hc⟩ := h.2 hn
    exact ⟨ad, e, hb, fun j u hu => (hk _ (by rw [block_of_add]; exact hb)).trans (hc j u hu)⟩⟩
theorem Reads.more (h : Reads w B size A n xs) (hB : B ≤ B') : Reads w B' size A n xs :=
  ⟨h.1, fun hn => by
    obtain ⟨ad, e, hb, hc⟩ := h.2 hn
    exact ⟨ad, e, by omega, hc⟩⟩
theorem Reads.below (h : Reads w B size A n xs) (hb : Below B w w') : Reads w' B size A n xs := h.keep fun _ hp => hb.cell hp
theorem Reads.drew (h : Reads w B size A n xs) : Reads w.drew B size A n xs := h
theorem Reads.drewN (h : Reads w B size A n xs) (k : Nat) : Reads (w.drewN k) B size A n xs := h
theorem Reads.alloc (h : Reads w B size A n xs) (hB : B ≤ w.heap.size) (o : Obj) : Reads (w.alloc o) B size A n xs := h.keep fun p hp => World.cell?_alloc_lt w o p (by omega)
theorem Reads.setCell (h : Reads w B size A n xs) {p : Addr} (hB : B ≤ p.block) (u : Value) : Reads (w.setCell p u) B size A n xs :=
  h.keep fun q hq => World.cell?_setCell_other w p q u (fun e => by subst e; omega)
theorem Reads.grown (h : Reads w B size A n xs) {row : Option Nat} (hg : w.grownBy w' row) (hB : B ≤ w.heap.size) (hr : ∀ g, row = some g → B ≤ g) : Reads w' B size A n xs :=
  h.keep fun p hp => World.cell?_of_block (hg.block p.block (by omega) (fun e => by have := hr _ e.symm; omega))
theorem Reads.cut (h : Reads w B size A n xs) {k cap : Nat} (hk : k ≤ n) (hc : n ≤ cap) :
    Reads w B size (if cap = k then A else A.map (·.add (k * size))) (n - k) (xs.drop (k * size)) := by
  refine ⟨by rw [List.length_drop, h.1, Nat.sub_mul], fun hn => ?_⟩
  obtain ⟨ad, rfl, hb, hcell⟩ := h.2 (by omega)
  rw [if_neg (by omega)]
  refine ⟨ad.add (k * size), rfl, by rw [block_of_add]; exact hb, fun j u hu => ?_⟩
  rw [add_of_add]
  exact hcell _ u (by rw [← hu, List.getElem?_drop])
theorem Reads.of_own {base : Nat} {e : TypeId} {c : Nat} (h : w.ownsRow base e size (.slice A n c) n xs) : Reads w w.heap.size size A n xs := by
  refine ⟨h.1, fun hn => ?_⟩
  obtain ⟨g, cap, hv, _, hlt⟩ := h.form hn
  have hA : A = some ⟨g, 0, none⟩ := by injection hv
  subst hA
  exact ⟨_, rfl, hlt, h.cells (g := g) rfl⟩
end
def Blk (w : World) (g : Nat) (t : TypeId) (cs : Array Value) : Prop := w.heap[g]? = some (.cells cs t (0, 0))

section
variable {w w' : World} {g : Nat} {t : TypeId} {cs : Array Value}
theorem Blk.lt (h : Blk w g t cs) : g < w.heap.size := by
  rcases Nat.lt_or_ge g w.heap.size with hlt | hge
  · exact hlt
  · unfold Blk at h; rw [Array.getElem?_eq_none hge] at h; cases h
theorem Blk.cell (h : Blk w g t cs) (i : Nat) : w.cell? ⟨g, i, none⟩ = cs[i]? := cell_of_row w g i cs t (0, 0) h
theorem Blk.frozen (h : Blk w g t cs) (i : Nat) : w.frozen? ⟨g, i, none⟩ = false := by
  unfold Blk at h
  simp [World.frozen?, h]
theorem Blk.new (w : World) (t : TypeId) (cs : Array Value) : Blk (w.alloc (.cells cs t)) w.heap.size t cs := heap_alloc_new w _
theorem Blk.drew (h : Blk w g t cs) : Blk w.drew g t cs := h
theorem Blk.drewN (h : Blk w g t cs) (n : Nat) : Blk (w.drewN n) g t cs := h
theorem Blk.alloc (h : Blk w g t cs) (o : Obj) : Blk (w.alloc o) g t cs := (Below.heap_alloc w o g h.lt).trans h
theorem Blk.set_ (h : Blk w g t cs) (i : Nat) (u : Value) : Blk (w.setCell ⟨g, i, none⟩ u) g t (cs.setIfInBounds i u) := by
  unfold Blk at h ⊢
  simp [World.setCell, Array.getElem?_modify, h]
theorem Blk.far (h : Blk w g t cs) {p : Addr} (hp : g ≠ p.block) (u : Value) : Blk (w.setCell p u) g t cs := (Below.heap_setCell w p u g hp).trans h
theorem Blk.below {B : Nat} (h : Blk w g t cs) (hb : Below B w w') (hg : g < B) : Blk w' g t cs := (hb.block g hg).trans h
theorem Blk.grown {row : Option Nat} (h : Blk w g t cs) (hb : w.grownBy w' row) (hg : some g ≠ row) : Blk w' g t cs := (hb.block g h.lt hg).trans h
theorem Blk.ne_ {g' : Nat} {t' : TypeId} {cs' : Array Value} (h : Blk w g t cs) (h' : Blk w g' t' cs') (hne : t ≠ t') : g ≠ g' := by
  rintro rfl
  unfold Blk at h h'
  rw [h] at h'
  injection h' with h'
  injection h' with _ ht
  exact hne ht
theorem own_blk_ne {base : Nat} {e : TypeId} {size n : Nat} {v : Value} {xs : List Value} (h : w.ownsRow base e size v n xs) (hg : Blk w g t cs) (hne : e ≠ t) : v.ownBlock ≠ some g := by
  rcases h.2 with ⟨rfl, _⟩ | ⟨g', cap, cur, rfl, _, hh, _⟩
  · simp [Value.ownBlock]
  · intro he
    have : g' = g := by simpa [Value.ownBlock] using he
    subst this
    exact Blk.ne_ (t := e) hh hg hne rfl
end
section
variable {P : Program} (w : World)

/-- append onto a row of the call's own, whatever its row's size, as long as the new row has room in memory -/
theorem run_append_wide (base : Nat) (t ty e : TypeId) (i : TypeInfo) (z : Value) (size bytes : Nat) (ht : P.underlying t = some (.slice e)) (hi : P.info? e = some i) (hz : i.zero = some z)
    (hsize : i.size = size) (hby : i.bytes = bytes) (hzs : z.cells.size = size) (hsz : 0 < size)
    (v : Value) (n : Nat) (xs : List Value) (hown : w.ownsRow base e size v n xs)
    (a : Addr) (m c : Nat) (news : List Value) (hl : news.length = m * size) (hnews : ∀ j u, news[j]? = some u → w.cell? (a.add j) = some u) (h1 : ∀ u ∈ news, u.oneCell' = true)
    (h63 : n + m ≤ maxLen) (hfit : ∀ old, old < n + m → Builtin.nextslicecap (n + m) old * bytes ≤ 281474976710656) (hbase : base ≤ w.heap.size) :
    ∃ v' w', (Builtin.append_ #[t, t] ty #[v, .slice (some a) m c]).run P w = .ok v' w' ∧ w'.ownsRow base e size v' (n + m) (xs ++ news) ∧ w.grownBy w' v.ownBlock ∧
      (v' = .slice none 0 0 ↔ v = .slice none 0 0 ∧ m = 0) ∧ (v'.ownBlock = v.ownBlock ∨ v'.ownBlock = some w.heap.size) := by
  subst hsize
  subst hby
  have hsmall : n + m ≤ 9223372036854775807 := by simp only [maxLen] at h63; omega
  have hlen : (xs ++ news).length = (n + m) * i.size := by rw [List.length_append, hown.1, hl, Nat.add_mul]
  have grown : ∀ (old : Nat), old < n + m → ∀ (row : Option Nat),
      (w.drew.alloc (.cells (xs.toArray ++ news.toArray ++ Builtin.zeroCells z.cells (grownCap w (n + m) old e - (n + m))) e)).ownsRow base e i.size
        (.slice (some ⟨w.heap.size, 0, none⟩) (n + m) (grownCap w (n + m) old e)) (n + m) (xs ++ news) ∧
      w.grownBy (w.drew.alloc (.cells (xs.toArray ++ news.toArray ++ Builtin.zeroCells z.cells (grownCap w (n + m) old e - (n + m))) e)) row := by
    intro old ho row
    have hge := grownCap_ge w (n + m) old e
    have hcm : grownCap w (n + m) old e ≤ maxLen := grownCap_le_maxLen w (n + m) old e h63
    refine ⟨⟨hlen, .inr ⟨w.heap.size, _, _, rfl, hbase, heap_alloc_new w.drew _, hge, hcm, ?_, ?_⟩⟩, ⟨rfl, rfl, rfl, by simp, fun k hk _ => Below.heap_alloc w.drew _ k hk⟩⟩
    · simp only [Array.size_append, List.size_toArray, size_zeroCells, hzs, hown.1, hl, ← Nat.add_mul]
      congr 1
      omega
    · simp only [Array.toList_append, List.append_assoc]
      rw [← List.append_assoc, ← hlen]
      exact List.take_left
  rcases hown.2 with ⟨rfl, rfl⟩ | ⟨g, cap, cur, rfl, hbg, hg, hnc, hcm, hcs, htake⟩
  · have hx : xs = [] := List.eq_nil_of_length_eq_zero (by simpa using hown.1)
    subst hx
    by_cases hm : m = 0
    · subst hm
      have hn : news = [] := List.eq_nil_of_length_eq_zero (by simpa using hl)
      subst hn
      refine ⟨.slice none 0 0, w, ?_, World.ownsRow_nil w base e i.size, ⟨rfl, rfl, rfl, Nat.le_refl _, fun _ _ _ => rfl⟩, by simp, Or.inl rfl⟩
      simp [Builtin.append_, run_underlying ht, sizeOf, typeInfo, hi, Builtin.lenOf, Builtin.firstCells, loadCells, loadCellsFrom]
    · have hr := run_append_nil (P := P) w t ty e i z ht hi hz a m c news hl hnews (by omega) (by omega) (by have hb := hfit 0 (by omega); rw [nextslicecap_zero (by omega)] at hb; simpa using hb)
      have hgr := grown 0 (by omega) (Value.ownBlock (.slice none 0 0))
      simp only [Nat.zero_add, List.nil_append, Array.empty_append] at hgr ⊢
      exact ⟨_, _, hr, hgr.1, hgr.2, by simp [hm], Or.inr rfl⟩
  · by_cases hroom : n + m ≤ cap
    · have hfit : n * i.size + news.length ≤ cur.size := by rw [hl, hcs, ← Nat.add_mul]; exact Nat.mul_le_mul_right _ hroom
      have hr := run_append_room (P := P) w t ty e i ht hi g n cap cur hg a m c news hl hnews h1 hroom hfit
      refine ⟨_, _, hr, ⟨hlen, .inr ⟨g, cap, _, rfl, hbg, setRow_heap w g cur _ e _ hg, hroom, hcm, ?_, ?_⟩⟩, ⟨rfl, rfl, rfl, by simp, fun k _ hk => setRow_other w g k _ (fun e => hk (by simp [Value.ownBlock, e]))⟩, by simp, Or.inl rfl⟩
      · simp only [List.size_toArray, List.length_append, List.length_take, List.length_drop, Array.length_toList]
        omega
      · rw [htake, ← hlen]
        exact List.take_left
    · have holds : ∀ j u, xs[j]? = some u → w.cell? ((⟨g, 0, none⟩ : Addr).add j) = some u := hown.cells (g := g) rfl
      have hr := run_append_grow (P := P) w t ty e i z ht hi hz ⟨g, 0, none⟩ n cap xs hown.1 holds a m c news hl hnews (by omega) (by omega) (hfit cap (by omega))
      have hgr := grown cap (by omega) (Value.ownBlock (.slice (some ⟨g, 0, none⟩) n cap))
      exact ⟨_, _, hr, hgr.1, hgr.2, by simp, Or.inr rfl⟩

theorem fit_small {need bytes : Nat} (hb : need * bytes ≤ 140737488355328) : ∀ old, old < need → Builtin.nextslicecap need old * bytes ≤ 281474976710656 := fun _ h => growslice_fits h hb
theorem nextslicecap_quarter {need old : Nat} (h : old < need) : Builtin.nextslicecap need old ≤ need + (need + 768) / 4 + 512 := by
  unfold Builtin.nextslicecap
  split
  · omega
  · split
    · omega
    · rw [growBy_four]
      repeat' split
      all_goals omega
/-- bytes: half as much again -/
theorem fit_wide {need : Nat} (hb : need ≤ 211106232532992) : ∀ old, old < need → Builtin.nextslicecap need old * 1 ≤ 281474976710656 := fun _ h => by
  have := nextslicecap_quarter h
  omega

theorem run_append_of_nil (base : Nat) (t ty e : TypeId) (i : TypeInfo) (size : Nat) (ht : P.underlying t = some (.slice e)) (hi : P.info? e = some i)
    (v : Value) (n : Nat) (xs : List Value) (hown : w.ownsRow base e size v n xs) (c : Nat) : (Builtin.append_ #[t, t] ty #[v, .slice none 0 c]).run P w = .ok v w := by
  rcases hown.2 with ⟨rfl, rfl⟩ | ⟨g, cap, cur, rfl, _, _, hnc, _⟩
  · simp [Builtin.append_, run_underlying ht, sizeOf, typeInfo, hi, Builtin.lenOf, Builtin.firstCells]
  · simp [Builtin.append_, run_underlying ht, sizeOf, typeInfo, hi, Builtin.lenOf, Builtin.firstCells, hnc, storeCells]

theorem run_append_any (base : Nat) (t ty e : TypeId) (i : TypeInfo) (z : Value) (size bytes : Nat) (ht : P.underlying t = some (.slice e)) (hi : P.info? e = some i) (hz : i.zero = some z)
    (hsize : i.size = size) (hby : i.bytes = bytes) (hzs : z.cells.size = size) (hsz : 0 < size)
    (v : Value) (n : Nat) (xs : List Value) (hown : w.ownsRow base e size v n xs)
    (B : Nat) (A : Option Addr) (m c : Nat) (news : List Value) (hr : Reads w B size A m news) (h1 : ∀ u ∈ news, u.oneCell' = true)
    (h63 : n + m ≤ maxLen) (hfit : ∀ old, old < n + m → Builtin.nextslicecap (n + m) old * bytes ≤ 281474976710656) (hbase : base ≤ w.heap.size) :
    ∃ v' w', (Builtin.append_ #[t, t] ty #[v, .slice A m c]).run P w = .ok v' w' ∧ w'.ownsRow base e size v' (n + m) (xs ++ news) ∧ w.grownBy w' v.ownBlock ∧
      (v'.ownBlock = v.ownBlock ∨ v'.ownBlock = some w.heap.size) := by
  rcases A with _ | ad
  · have hm : m = 0 := by
      rcases Nat.eq_zero_or_pos m with h0 | h0
      · exact h0
      · obtain ⟨ad, h, _⟩ := hr.2 h0
        cases h
    subst hm
    have hn : news = [] := List.eq_nil_of_length_eq_zero (by simpa using hr.1)
    subst hn
    exact ⟨v, w, run_append_of_nil w base t ty e i size ht hi v n xs hown c, by simpa using hown, World.grownBy.refl w _, .inl rfl⟩
  · have hcells : ∀ j u, news[j]? = some u → w.cell? (ad.add j) = some u := by
      intro j u hu
      rcases Nat.eq_zero_or_pos m with h0 | h0
      · subst h0
        have hn : news = [] := List.eq_nil_of_length_eq_zero (by simpa using hr.1)
        subst hn
        simp at hu
      · obtain ⟨ad', h, _, hc⟩ := hr.2 h0
        injection h with h
        subst h
        exact hc j u hu
    obtain ⟨v', w', hrun, h2, h3, _, h5⟩ := run_append_wide (P := P) w base t ty e i z size bytes ht hi hz hsize hby hzs hsz v n xs hown ad m c news hr.1 hcells h1 h63 hfit hbase
    exact ⟨v', w', hrun, h2, h3, h5⟩

theorem wp_append_any {o : Oper} {a : Act} {K : Act → World → Prop} {Q : Exit → Act → World → Prop} (s x : Operand) (t : TypeId)
    (ho : o.op = .call { callee := .builtin .append, args := #[s, x], argTypes := #[t, t] })
    (base : Nat) (e : TypeId) (i : TypeInfo) (z : Value) (size bytes : Nat) (ht : P.underlying t = some (.slice e)) (hi : P.info? e = some i) (hz : i.zero = some z)
    (hsize : i.size = size) (hby : i.bytes = bytes) (hzs : z.cells.size = size) (hsz : 0 < size)
    (v : Value) (n : Nat) (xs : List Value) (hs : a.eval s = v) (hown : w.ownsRow base e size v n xs)
    (B : Nat) (A : Option Addr) (m c : Nat) (news : List Value) (hx : a.eval x = .slice A m c) (hr : Reads w B size A m news) (h1 : ∀ u ∈ news, u.oneCell' = true)
    (h63 : n + m ≤ maxLen) (hfit : ∀ old, old < n + m → Builtin.nextslicecap (n + m) old * bytes ≤ 281474976710656) (hbase : base ≤ w.heap.size)
    (h : ∀ v' w', w'.ownsRow base e size v' (n + m) (xs ++ news) → w.grownBy w' v.ownBlock → (v'.ownBlock = v.ownBlock ∨ v'.ownBlock = some w.heap.size) → K (a.put o.dst v') w') : o.wp P a w K Q := by
  obtain ⟨v', w', hrun, h2, h3, h4⟩ := run_append_any (P := P) w base t o.type e i z size bytes ht hi hz hsize hby hzs hsz v n xs hown B A m c news hr h1 h63 hfit hbase
  unfold Oper.wp execOp
  simp only [ho, resolve, invoke, builtin, Sem.run_bind, Sem.run_pure, Result.andThen_ok, List.map_toArray, List.map_cons, List.map_nil, hs, hx, hrun]
  exact h v' w' h2 h3 h4

theorem wpList_append_any {ops : Array Oper} {rest : List Oper} {o : Oper} {a : Act} {Q : Exit → Act → World → Prop} (hgd : o.guard = none) (s x : Operand) (t : TypeId)
    (ho : o.op = .call { callee := .builtin .append, args := #[s, x], argTypes := #[t, t] })
    (base : Nat) (e : TypeId) (i : TypeInfo) (z : Value) (size bytes : Nat) (ht : P.underlying t = some (.slice e)) (hi : P.info? e = some i) (hz : i.zero = some z)
    (hsize : i.size = size) (hby : i.bytes = bytes) (hzs : z.cells.size = size) (hsz : 0 < size)
    (v : Value) (n : Nat) (xs : List Value) (hs : a.eval s = v) (hown : w.ownsRow base e size v n xs)
    (B : Nat) (A : Option Addr) (m c : Nat) (news : List Value) (hx : a.eval x = .slice A m c) (hr : Reads w B size A m news) (h1 : ∀ u ∈ news, u.oneCell' = true)
    (h63 : n + m ≤ maxLen) (hfit : ∀ old, old < n + m → Builtin.nextslicecap (n + m) old * bytes ≤ 281474976710656) (hbase : base ≤ w.heap.size)
    (h : ∀ v' w', w'.ownsRow base e size v' (n + m) (xs ++ news) → w.grownBy w' v.ownBlock → (v'.ownBlock = v.ownBlock ∨ v'.ownBlock = some w.heap.size) → wpList P ops Q rest (a.put o.dst v') w') : wpList P ops Q (o :: rest) a w :=
  wpList_plain hgd fun _ hK => wp_append_any w s x t ho base e i z size bytes ht hi hz hsize hby hzs hsz v n xs hs hown B A m c news hx hr h1 h63 hfit hbase fun v' w' h2 h3 h4 => hK _ _ (h v' w' h2 h3 h4)

theorem step_append_any {ops : Array Oper} {o : Oper} {a : Act} {K : Act → World → Prop} {Q : Exit → Act → World → Prop} {E : Prop} (hgd : o.guard = none) (s x : Operand) (t : TypeId)
    (ho : o.op = .call { callee := .builtin .append, args := #[s, x], argTypes := #[t, t] })
    (base : Nat) (e : TypeId) (i : TypeInfo) (z : Value) (size bytes : Nat) (ht : P.underlying t = some (.slice e)) (hi : P.info? e = some i) (hz : i.zero = some z)
    (hsize : i.size = size) (hby : i.bytes = bytes) (hzs : z.cells.size = size) (hsz : 0 < size)
    (v : Value) (n : Nat) (xs : List Value) (hs : a.eval s = v) (hown : w.ownsRow base e size v n xs)
    (B : Nat) (A : Option Addr) (m c : Nat) (news : List Value) (hx : a.eval x = .slice A m c) (hr : Reads w B size A m news) (h1 : ∀ u ∈ news, u.oneCell' = true)
    (h63 : n + m ≤ maxLen) (hfit : ∀ old, old < n + m → Builtin.nextslicecap (n + m) old * bytes ≤ 281474976710656) (hbase : base ≤ w.heap.size)
    (h : ∀ v' w', w'.ownsRow base e size v' (n + m) (xs ++ news) → w.grownBy w' v.ownBlock → (v'.ownBlock = v.ownBlock ∨ v'.ownBlock = some w.heap.size) → K (a.put o.dst v') w') :
    if Region.wanted o (yielded ops a.tmps) = true then Oper.wp P o a w K Q else E := by
  have hw : Region.wanted o (yielded ops a.tmps) = true := by simp [Region.wanted, hgd]
  rw [if_pos hw]
  exact wp_append_any w s x t ho base e i z size bytes ht hi hz hsize hby hzs hsz v n xs hs hown B A m c news hx hr h1 h63 hfit hbase h
end

/-! ### my own words: bytes -/
/-- bytes as cells -/
def byt (l : List UInt8) : List Value := l.map fun c => Value.int .u8 (c.toNat : Int)
theorem byt_len (l : List UInt8) : (byt l).length = l.length := by simp [byt]
theorem byt_get (l : List UInt8) (k : Nat) (h : k < l.length) : (byt l)[k]? = some (.int .u8 (l[k].toNat : Int)) := by simp [byt, h]
theorem byt_one (l : List UInt8) : ∀ u ∈ byt l, u.oneCell' = true := by
  intro u hu
  obtain ⟨_, _, rfl⟩ := List.mem_map.1 hu
  rfl
theorem byt_append (a b : List UInt8) : byt (a ++ b) = byt a ++ byt b := by simp [byt]
theorem byt_drop (l : List UInt8) (k : Nat) : (byt l).drop k = byt (l.drop k) := by simp [byt]
theorem byt_take (l : List UInt8) (k : Nat) : (byt l).take k = byt (l.take k) := by simp [byt]

/-- a slice value's address, length: it reads as these bytes, below block B -/
def RB (w : World) (B : Nat) (A : Option Addr) (l : List UInt8) : Prop := Reads w B 1 A l.length (byt l)
section
variable {w w' : World} {B B' : Nat} {A : Option Addr} {l : List UInt8}
theorem RB.nil (w : World) (B : Nat) (A : Option Addr) : RB w B A [] := ⟨rfl, fun h => by cases h⟩
theorem RB.at_ {k : Nat} (h : RB w B A l) (hk : k < l.length) : ∃ b off, A = some ⟨b, off, none⟩ ∧ b < B ∧ w.cell? ⟨b, off + k, none⟩ = some (.int .u8 (l[k].toNat : Int)) := by
  obtain ⟨ad, u, h1, h2, h3, h4⟩ := Reads.at_ h hk
  obtain ⟨ad', u', h1', _, _, h4'⟩ := Reads.at_ (k := 0) h (by omega)
  rw [h1] at h1'
  obtain rfl := Option.some.inj h1'
  rw [byt_get l k hk] at h3
  obtain rfl := Option.some.inj h3
  obtain ⟨b, off, spot⟩ := ad
  have hspot : spot = none := by simpa [Addr.add] using World.cell?_spot h4'
  subst hspot
  rw [Addr.add_lit] at h4
  exact ⟨b, off, h1, h2, h4⟩
theorem RB.keep (h : RB w B A l) (hk : ∀ p : Addr, p.block < B → w'.cell? p = w.cell? p) : RB w' B A l := Reads.keep h hk
theorem RB.more (h : RB w B A l) (hB : B ≤ B') : RB w B' A l := Reads.more h hB
theorem RB.below (h : RB w B A l) (hb : Below B w w') : RB w' B A l := Reads.below h hb
theorem RB.drew (h : RB w B A l) : RB w.drew B A l := h
theorem RB.drewN (h : RB w B A l) (k : Nat) : RB (w.drewN k) B A l := h
theorem RB.alloc (h : RB w B A l) (hB : B ≤ w.heap.size) (o : Obj) : RB (w.alloc o) B A l := Reads.alloc h hB o
theorem RB.setCell (h : RB w B A l) {p : Addr} (hB : B ≤ p.block) (u : Value) : RB (w.setCell p u) B A l := Reads.setCell h hB u
theorem RB.grown (h : RB w B A l) {row : Option Nat} (hg : w.grownBy w' row) (hB : B ≤ w.heap.size) (hr : ∀ g, row = some g → B ≤ g) : RB w' B A l := Reads.grown h hg hB hr
theorem RB.cut (h : RB w B A l) {k cap : Nat} (hk : k ≤ l.length) (hc : l.length ≤ cap) : RB w B (if cap = k then A else A.map (·.add k)) (l.drop k) := by
  have := Reads.cut h hk hc
  simp only [Nat.mul_one] at this
  rw [byt_drop] at this
  unfold RB
  rw [List.length_drop]
  exact this
theorem RB.take (h : RB w B A l) (n : Nat) : RB w B A (l.take n) := by
  refine ⟨by rw [byt_len]; omega, fun hn => ?_⟩
  have hl : 0 < l.length := by rw [List.length_take] at hn; omega
  obtain ⟨ad, e, hb, hc⟩ := h.2 hl
  refine ⟨ad, e, hb, fun j u hu => hc j u ?_⟩
  rw [← byt_take, List.getElem?_take] at hu
  split at hu
  · exact hu
  · cases hu
theorem RB.of_own {base c n : Nat} {e : TypeId} (h : w.ownsRow base e 1 (.slice A n c) n (byt l)) : RB w w.heap.size A l := by
  have := Reads.of_own h
  have hl : n = l.length := by have := h.1; rw [byt_len] at this; omega
  subst hl
  exact this
end
/-- what the callee made: a row of bytes of its own -/
def OB (w : World) (base : Nat) (v : Value) (l : List UInt8) : Prop := w.ownsRow base 5 1 v l.length (byt l)
theorem info_u8 : (Tryz.prog.info? 5).map (fun i => (i.zero, i.size, i.bytes)) = some (some (.int .u8 0), 1, 1) := by kernel_rfl
theorem ret_int {k : IntKind} {a b : Int} (h : a = b) : Ending.returned (.int k a) = .returned (.int k b) := by rw [h]

/-! ### appends -/
theorem Reads.new_ (w : World) (e : TypeId) (cs : List Value) (size n : Nat) (h : cs.length = n * size) : Reads (w.alloc (.cells cs.toArray e)) (w.heap.size + 1) size (some ⟨w.heap.size, 0, none⟩) n cs := by
  refine ⟨h, fun _ => ⟨_, rfl, by simp, fun j u hu => ?_⟩⟩
  rw [Addr.add_lit, Nat.zero_add, cell_of_row _ w.heap.size j cs.toArray e (0, 0) (heap_alloc_new w _)]
  simpa using hu

theorem Reads.newm (w : World) (e : TypeId) (m : Nat × Nat) (cs : List Value) (size n : Nat) (h : cs.length = n * size) : Reads (w.alloc (.cells cs.toArray e m)) (w.heap.size + 1) size (some ⟨w.heap.size, 0, none⟩) n cs := by
  refine ⟨h, fun _ => ⟨_, rfl, by simp, fun j u hu => ?_⟩⟩
  rw [Addr.add_lit, Nat.zero_add, cell_of_row _ w.heap.size j cs.toArray e m (heap_alloc_new w _)]
  simpa using hu

/-- an append of one byte, boxed just ahead, onto a row of bytes of the call's own -/
theorem append_byte {ops : Array Oper} {rest : List Oper} {o : Oper} {a : Act} {Q : Exit → Act → World → Prop} {w : World} (hgd : o.guard = none) (s x : Operand)
    (ho : o.op = .call { callee := .builtin .append, args := #[s, x], argTypes := #[28, 28] }) {base : Nat} {v : Value} {l : List UInt8} (hown : OB w base v l) (hs : a.eval s = v)
    {n : Int} {g : Nat} (hx : a.eval x = .slice (some ⟨g, 0, none⟩) 1 1) (hgs : g = w.heap.size) (c : UInt8) (hc : n = (c.toNat : Int)) (hlen : l.length + 1 ≤ 211106232532992) (hbase : base ≤ w.heap.size)
    (h : ∀ v' w', OB w' base v' (l ++ [c]) → w.grownBy w' v.ownBlock → (v'.ownBlock = v.ownBlock ∨ ∃ g, v'.ownBlock = some g ∧ w.heap.size ≤ g) → wpList Tryz.prog ops Q rest (a.put o.dst v') w') :
    wpList Tryz.prog ops Q (o :: rest) a (w.alloc (.cells #[.int .u8 n] 5)) := by
  obtain ⟨i0, hi0, hz0, hz1, hz2⟩ := info_parts info_u8
  subst hc hgs
  refine wpList_append_any _ hgd s x 28 ho base 5 i0 (.int .u8 0) 1 1 (by kernel_rfl) hi0 hz0 hz1 hz2 rfl (by omega) v l.length (byt l) hs (hown.alloc _) (w.heap.size + 1) _ 1 1
    [.int .u8 c.toNat] hx (Reads.new_ w _ _ 1 1 rfl) (byt_one [c]) (by unfold maxLen; omega) (fit_wide (by omega)) (by simp; omega) ?_
  intro v' w' hown' hg hat
  refine h v' w' ?_ ((World.grownBy_alloc w _ _).trans hg) ?_
  · unfold OB
    rw [byt_append, List.length_append]
    exact hown'
  · rcases hat with e | e
    · exact .inl e
    · exact .inr ⟨_, e, by simp⟩

/-- an append of bytes that are read, onto a row of bytes of the call's own -/
theorem append_bytes {ops : Array Oper} {rest : List Oper} {o : Oper} {a : Act} {Q : Exit → Act → World → Prop} {w : World} (hgd : o.guard = none) (s x : Operand)
    (ho : o.op = .call { callee := .builtin .append, args := #[s, x], argTypes := #[28, 28] }) {base : Nat} {v : Value} {l : List UInt8} (hown : OB w base v l) (hs : a.eval s = v)
    {B : Nat} {A : Option Addr} {n cap : Nat} (m : List UInt8) (hx : a.eval x = .slice A n cap) (hn : n = m.length) (hr : RB w B A m) (hlen : l.length + m.length ≤ 211106232532992) (hbase : base ≤ w.heap.size)
    (h : ∀ v' w', OB w' base v' (l ++ m) → w.grownBy w' v.ownBlock → (v'.ownBlock = v.ownBlock ∨ ∃ g, v'.ownBlock = some g ∧ w.heap.size ≤ g) → wpList Tryz.prog ops Q rest (a.put o.dst v') w') :
    wpList Tryz.prog ops Q (o :: rest) a w := by
  obtain ⟨i0, hi0, hz0, hz1, hz2⟩ := info_parts info_u8
  subst hn
  refine wpList_append_any _ hgd s x 28 ho base 5 i0 (.int .u8 0) 1 1 (by kernel_rfl) hi0 hz0 hz1 hz2 rfl (by omega) v l.length (byt l) hs hown B A m.length cap
    (byt m) hx hr (byt_one m) (by unfold maxLen; omega) (fit_wide (by omega)) hbase ?_
  intro v' w' hown' hg hat
  refine h v' w' ?_ hg ?_
  · unfold OB
    rw [byt_append, List.length_append]
    exact hown'
  · rcases hat with e | e
    · exact .inl e
    · exact .inr ⟨_, e, Nat.le_refl _⟩

/-- the same as one step of a region that draws its order -/
theorem step_bytes {ops : Array Oper} {o : Oper} {a : Act} {K : Act → World → Prop} {Q : Exit → Act → World → Prop} {E : Prop} {w : World} (hgd : o.guard = none) (s x : Operand)
    (ho : o.op = .call { callee := .builtin .append, args := #[s, x], argTypes := #[28, 28] }) {base : Nat} {v : Value} {l : List UInt8} (hown : OB w base v l) (hs : a.eval s = v)
    {B : Nat} {A : Option Addr} {n cap : Nat} (m : List UInt8) (hx : a.eval x = .slice A n cap) (hn : n = m.length) (hr : RB w B A m) (hlen : l.length + m.length ≤ 211106232532992) (hbase : base ≤ w.heap.size)
    (h : ∀ A' n' c' w', OB w' base (.slice A' n' c') (l ++ m) → w.grownBy w' v.ownBlock → K (a.put o.dst (.slice A' n' c')) w') :
    if Region.wanted o (yielded ops a.tmps) = true then Oper.wp Tryz.prog o a w K Q else E := by
  obtain ⟨i0, hi0, hz0, hz1, hz2⟩ := info_parts info_u8
  subst hn
  refine step_append_any _ hgd s x 28 ho base 5 i0 (.int .u8 0) 1 1 (by kernel_rfl) hi0 hz0 hz1 hz2 rfl (by omega) v l.length (byt l) hs hown B A m.length cap
    (byt m) hx hr (byt_one m) (by unfold maxLen; omega) (fit_wide (by omega)) hbase ?_
  intro v' w' hown' hg hat
  have hf : ∃ A' n' c', v' = .slice A' n' c' := by
    rcases hown'.2 with ⟨rfl, _⟩ | ⟨g, cap, cur, rfl, _⟩
    · exact ⟨_, _, _, rfl⟩
    · exact ⟨_, _, _, rfl⟩
  obtain ⟨A', n', c', rfl⟩ := hf
  refine h A' n' c' w' ?_ hg
  unfold OB
  rw [byt_append, List.length_append]
  exact hown'

theorem OB.nil (w : World) (base : Nat) : OB w base (.slice none 0 0) [] := World.ownsRow_nil w base _ _
theorem OB.made (w : World) (base : Nat) (h : base ≤ w.heap.size) : OB (w.alloc (.cells #[] 5)) base (.slice (some ⟨w.heap.size, 0, none⟩) 0 0) [] := World.ownsRow_made w #[] 0 h (by unfold maxLen; omega) rfl
/-- what is owned is a slice, which reads as its bytes -/
theorem OB.form {w : World} {base : Nat} {v : Value} {l : List UInt8} (h : OB w base v l) : ∃ A cap, v = .slice A l.length cap ∧ l.length ≤ cap ∧ cap ≤ maxLen ∧ RB w w.heap.size A l := by
  have h0 := h
  rcases h.2 with ⟨rfl, hn⟩ | ⟨g, cap, cur, rfl, hb, hg, hnc, hcm, hcs, htake⟩
  · refine ⟨none, 0, by rw [hn], by omega, by unfold maxLen; omega, ?_⟩
    rw [List.eq_nil_of_length_eq_zero hn]
    exact RB.nil _ _ _
  · exact ⟨_, cap, rfl, hnc, hcm, RB.of_own h0⟩
theorem grown_below {w w' : World} {v : Value} {base : Nat} {l : List UInt8} (hown : OB w base v l) (hg : w.grownBy w' v.ownBlock) (hbase : base ≤ w.heap.size) {a : World} {B : Nat} (hB : B ≤ base) (hb : Below B a w) : Below B a w' :=
  hb.grown hg (by omega) (fun k hk => by have := (World.ownsRow.lt hown k hk).1; omega)

/-! ### a cut of a slice of bytes, its address kept behind a name -/
def cutA (A : Option Addr) (cap q : Nat) : Option Addr := if cap = q then A else A.map (·.add q)
theorem RB.cutA {w : World} {B : Nat} {A : Option Addr} {l : List UInt8} (h : RB w B A l) {k cap : Nat} (hk : k ≤ l.length) (hc : l.length ≤ cap) : RB w B (cutA A cap k) (l.drop k) := h.cut hk hc
theorem size_u8 (w : World) : (sizeOf (Tryz.prog.elem 28)).run Tryz.prog w = .ok 1 w := by kernel_rfl
theorem und_bytes : Tryz.prog.underlying 28 = some (.slice (Tryz.prog.elem 28)) := by kernel_rfl
theorem run_cut_from (w : World) (a : Option Addr) (len cap : Nat) (kl : IntKind) (l : Int) (h0 : 0 ≤ l) (h1 : l ≤ len) :
    (Instr.slice 28 (.slice a len cap) (some (.int kl l)) none none).run Tryz.prog w = .ok (.slice (cutA a cap l.toNat) (len - l.toNat) (cap - l.toNat)) w := by
  rw [run_slice_l w _ a len cap und_bytes kl l h0 h1, size_u8]
  simp [Result.andThen, sliced, cutA]
theorem run_cut_range (w : World) (a : Option Addr) (len cap : Nat) (kl kh : IntKind) (l h : Int) (h0 : 0 ≤ l) (h1 : l ≤ h) (h2 : h ≤ cap) :
    (Instr.slice 28 (.slice a len cap) (some (.int kl l)) (some (.int kh h)) none).run Tryz.prog w = .ok (.slice (cutA a cap l.toNat) (h.toNat - l.toNat) (cap - l.toNat)) w := by
  rw [run_slice_lh w _ a len cap und_bytes kl kh l h h0 h1 h2, size_u8]
  simp [Result.andThen, sliced, cutA]
attribute [go_sem high] run_cut_from run_cut_range
end Go.Proofs.YtlhpmlknmgocoaaGreat

/- Plain functions of layer 6: numbers out of bytes, varints; no program in sight. -/
namespace Go.Proofs.YtlhpmlknmgocoaaGreat

/-- the number of some bytes, the least one first -/
def lit8 : List UInt8 → Nat
  | [] => 0
  | c :: l => c.toNat + 256 * lit8 l

theorem lit8_lt (l : List UInt8) : lit8 l < 256 ^ l.length := by
  induction l with
  | nil => simp [lit8]
  | cons c l ih =>
    have := c.toNat_lt
    simp only [lit8, List.length_cons, Nat.pow_succ]
    omega

theorem lit8_append (a b : List UInt8) : lit8 (a ++ b) = lit8 a + 256 ^ a.length * lit8 b := by
  induction a with
  | nil => simp [lit8]
  | cons c l ih =>
    simp only [List.cons_append, lit8, ih, List.length_cons, Nat.pow_succ]
    rw [Nat.mul_add, Nat.mul_comm (256 ^ l.length) 256, Nat.mul_assoc]; omega

theorem lit8_drop (l : List UInt8) (k : Nat) (h : k < l.length) : lit8 (l.drop k) = l[k].toNat + 256 * lit8 (l.drop (k + 1)) := by
  rw [List.drop_eq_getElem_cons h]; rfl

theorem lit8_take (l : List UInt8) (k : Nat) (h : k < l.length) : lit8 (l.take (k + 1)) = lit8 (l.take k) + 256 ^ k * l[k].toNat := by
  rw [List.take_succ_eq_append_getElem h, lit8_append, List.length_take, Nat.min_eq_left (by omega)]; simp [lit8]

theorem or_shift (x c i : Nat) (hi : i ≤ 64) (hx : x < 2 ^ i) (hc : c * 2 ^ i < 2 ^ 64) : bits .or .u64 (x : Int) (IntKind.u64.wrap ((c : Int) * 2 ^ i)) = ((x + c * 2 ^ i : Nat) : Int) := by
  have e : IntKind.u64.wrap ((c : Int) * 2 ^ i) = ((c * 2 ^ i : Nat) : Int) := by
    have : ((c : Int) * 2 ^ i) = ((c * 2 ^ i : Nat) : Int) := by rw [Int.natCast_mul, Int.natCast_pow]; rfl
    rw [this, IntKind.wrap_u64]; omega
  have h64 : 2 ^ i ≤ 2 ^ 64 := Nat.pow_le_pow_right (by decide) hi
  rw [e, bits_or_u64_nat _ _ (by omega) (by omega)]
  congr 1
  rw [Nat.or_comm, Nat.mul_comm c, ← Nat.two_pow_add_eq_or_of_lt hx]; omega

theorem pow256 (k : Nat) : 256 ^ k = 2 ^ (8 * k) := by rw [Nat.pow_mul]
theorem pow128 (k : Nat) : 128 ^ k = 2 ^ (7 * k) := by rw [Nat.pow_mul]

theorem lit8_join (l : List UInt8) (k : Nat) (h : k < l.length) (hl : l.length ≤ 8) :
    bits .or .u64 (lit8 (l.take k) : Int) (IntKind.u64.wrap ((l[k].toNat : Int) * 2 ^ (8 * k))) = ((lit8 (l.take k) + 256 ^ k * l[k].toNat : Nat) : Int) := by
  have h1 := lit8_lt (l.take k)
  rw [List.length_take, Nat.min_eq_left (by omega), pow256] at h1
  have h2 := (l[k]).toNat_lt
  have h3 : 2 ^ (8 * k) * 256 ≤ 2 ^ 64 := by
    rw [show (256 : Nat) = 2 ^ 8 from rfl, ← Nat.pow_add]; exact Nat.pow_le_pow_right (by decide) (by omega)
  have h4 : l[k].toNat * 2 ^ (8 * k) < 256 * 2 ^ (8 * k) := Nat.mul_lt_mul_of_pos_right h2 (Nat.two_pow_pos _)
  rw [or_shift _ _ _ (by omega) h1 (by omega), pow256, Nat.mul_comm]

theorem pow256_le {n : Nat} (h : n ≤ 8) : 256 ^ n ≤ 18446744073709551616 := by
  have := Nat.pow_le_pow_right (n := 256) (by decide) h; simpa using this

theorem lit8_lt64 (l : List UInt8) (h : l.length ≤ 8) : lit8 l < 18446744073709551616 :=
  Nat.lt_of_lt_of_le (lit8_lt l) (pow256_le h)

/-! ### varints -/
/-- the varint at the head of some bytes, i of whose bytes have been read: its number, its length -/
def rdv : Nat → List UInt8 → Option (Nat × Nat)
  | _, [] => none
  | i, c :: l => if i = 9 ∧ 1 < c.toNat then none else if c.toNat < 128 then some (c.toNat, 1) else (rdv (i + 1) l).map fun p => (c.toNat - 128 + 128 * p.1, p.2 + 1)

/-- what ReadVarint answers -/
def rvar (l : List UInt8) (p : Int) : Nat × Int × Int :=
  if p < 0 ∨ (l.length : Int) < p then (0, 0, 2) else match rdv 0 (l.drop p.toNat) with
    | none => (0, 0, 6)
    | some q => (q.1, p + q.2, 0)

theorem rvar_out {l : List UInt8} {p : Int} (h : p < 0 ∨ (l.length : Int) < p) : rvar l p = (0, 0, 2) := by unfold rvar; rw [if_pos h]
theorem rvar_none {l : List UInt8} {q : Nat} (hq : q ≤ l.length) (h : rdv 0 (l.drop q) = none) : rvar l q = (0, 0, 6) := by
  unfold rvar; rw [if_neg (by omega), Int.toNat_natCast, h]
theorem rvar_some {l : List UInt8} {q x n : Nat} (hq : q ≤ l.length) (h : rdv 0 (l.drop q) = some (x, n)) : rvar l q = (x, (q : Int) + n, 0) := by
  unfold rvar; rw [if_neg (by omega), Int.toNat_natCast, h]

/-- what a byte counts at place k: in 64 bits, behind the tenth one 0 -/
def unit (k : Nat) : Nat := 128 ^ k % 18446744073709551616

/-- k bytes have been read, which make up x, and more follow -/
def RV (d : List UInt8) (k x : Nat) : Prop := k ≤ d.length ∧ k ≤ 9 ∧ x < 128 ^ k ∧ rdv 0 d = (rdv k (d.drop k)).map fun p => (x + 128 ^ k * p.1, k + p.2)

theorem RV.start (d : List UInt8) : RV d 0 0 := by
  refine ⟨Nat.zero_le _, by omega, by simp, ?_⟩
  cases h : rdv 0 d <;> simp [h]

theorem RV.none_ {d : List UInt8} {k x : Nat} (h : RV d k x) (hk : k = d.length) : rdv 0 d = none := by
  rw [h.2.2.2, List.drop_of_length_le (by omega)]; rfl

theorem RV.bad {d : List UInt8} {k x : Nat} (h : RV d k x) (hk : k < d.length) (h9 : k = 9) (hc : 1 < d[k].toNat) : rdv 0 d = none := by
  rw [h.2.2.2, List.drop_eq_getElem_cons hk]; subst h9; simp [rdv, hc]

theorem RV.last {d : List UInt8} {k x : Nat} (h : RV d k x) (hk : k < d.length) (h9 : ¬ (k = 9 ∧ 1 < d[k].toNat)) (hc : d[k].toNat < 128) : rdv 0 d = some (x + 128 ^ k * d[k].toNat, k + 1) := by
  rw [h.2.2.2, List.drop_eq_getElem_cons hk]; simp [rdv, h9, hc]

theorem RV.more {d : List UInt8} {k x : Nat} (h : RV d k x) (hk : k < d.length) (h9 : ¬ (k = 9 ∧ 1 < d[k].toNat)) (hc : ¬ d[k].toNat < 128) : RV d (k + 1) (x + 128 ^ k * (d[k].toNat - 128)) := by
  have hlt := d[k].toNat_lt
  refine ⟨hk, by have := h.2.1; omega, ?_, ?_⟩
  · have h1 : 128 ^ k * (d[k].toNat - 128) ≤ 128 ^ k * 127 := Nat.mul_le_mul_left _ (by omega)
    have := h.2.2.1
    rw [Nat.pow_succ]; omega
  · rw [h.2.2.2, List.drop_eq_getElem_cons hk]
    simp only [rdv, h9, hc, if_false, Option.map_map]
    refine congrArg (fun f => Option.map f _) (funext fun p => ?_)
    simp only [Function.comp, Prod.mk.injEq, Nat.mul_add, Nat.pow_succ, Nat.mul_assoc]
    omega

/-- what the two ways to join a byte to the number come to -/
theorem RV.num {d : List UInt8} {k x : Nat} (h : RV d k x) (hk : k < d.length) (h9 : ¬ (k = 9 ∧ 1 < d[k].toNat)) : x + 128 ^ k * (d[k].toNat % 128) < 18446744073709551616 := by
  have hlt := d[k].toNat_lt
  have hx := h.2.2.1
  by_cases h9' : k = 9
  · have : d[k].toNat ≤ 1 := by omega
    have h2 : 128 ^ k * (d[k].toNat % 128) ≤ 128 ^ k * 1 := Nat.mul_le_mul_left _ (by omega)
    have h3 : 128 ^ k = 9223372036854775808 := by rw [h9']
    generalize 128 ^ k = y at *
    generalize y * (d[k].toNat % 128) = z at *
    omega
  · have h1 : 128 ^ k * (d[k].toNat % 128) ≤ 128 ^ k * 127 := Nat.mul_le_mul_left _ (by omega)
    have h3 : 128 ^ (k + 1) ≤ 128 ^ 9 := Nat.pow_le_pow_right (by decide) (by have := h.2.1; omega)
    rw [Nat.pow_succ] at h3
    have h4 : 128 ^ 9 = 9223372036854775808 := by decide
    omega

theorem u8_and127 (c : Nat) (h : c < 256) : bits .and .u8 (c : Int) 127 = (c : Int) % 128 := by
  have := bits_mask .u8 8 (by decide) wraps_u8 7 (by decide) (c : Int) (by omega) (by omega)
  rw [show (2 : Int) ^ 7 - 1 = 127 from rfl, show (2 : Int) ^ 7 = 128 from rfl] at this
  rw [this]

theorem RV.join {d : List UInt8} {k x : Nat} (h : RV d k x) (hk : k < d.length) (h9 : ¬ (k = 9 ∧ 1 < d[k].toNat)) :
    bits .or .u64 (x : Int) (IntKind.u64.wrap ((d[k].toNat : Int) % 128 * 2 ^ (7 * k))) = ((x + 128 ^ k * (d[k].toNat % 128) : Nat) : Int) := by
  have hn := h.num hk h9
  have hx := h.2.2.1
  have hk9 := h.2.1
  rw [pow128] at hn hx
  rw [show ((d[k].toNat : Int) % 128) = ((d[k].toNat % 128 : Nat) : Int) from rfl, or_shift _ _ _ (by omega) hx (by rw [Nat.mul_comm]; omega), pow128, Nat.mul_comm]

theorem wrap_two63 (c : Nat) (h : c < 128) (h1 : c ≤ 1) : IntKind.u64.wrap ((c : Int) % 128 * 2 ^ (7 * 9)) = (c : Int) % 128 * 9223372036854775808 := by
  rw [show (2 : Int) ^ (7 * 9) = 9223372036854775808 from rfl, IntKind.wrap_u64]; omega

theorem unit_succ (k : Nat) : IntKind.u64.wrap ((unit k : Int) * 128) = (unit (k + 1) : Int) := by
  rw [IntKind.wrap_u64]; unfold unit
  have : ((128 ^ k % 18446744073709551616 * 128) % 18446744073709551616 : Nat) = 128 ^ (k + 1) % 18446744073709551616 := by rw [Nat.pow_succ, Nat.mod_mul_mod]
  rw [← this]; rfl

theorem unit_le (k : Nat) (h : k ≤ 9) : unit k = 128 ^ k := by
  refine Nat.mod_eq_of_lt ?_
  have h1 : 128 ^ k ≤ 128 ^ 9 := Nat.pow_le_pow_right (by decide) h
  have h2 : 128 ^ 9 = 9223372036854775808 := by decide
  omega

theorem RV.rjoin {d : List UInt8} {k x : Nat} (h : RV d k x) (hk : k < d.length) (h9 : ¬ (k = 9 ∧ 1 < d[k].toNat)) :
    IntKind.u64.wrap ((x : Int) + IntKind.u64.wrap ((unit k : Int) * ((d[k].toNat : Int) % 128))) = ((x + 128 ^ k * (d[k].toNat % 128) : Nat) : Int) := by
  have hn := h.num hk h9
  rw [unit_le k h.2.1, show ((128 ^ k : Nat) : Int) * ((d[k].toNat : Int) % 128) = ((128 ^ k * (d[k].toNat % 128) : Nat) : Int) by rw [Int.natCast_mul]; rfl]
  rw [IntKind.wrap_u64, IntKind.wrap_u64]
  generalize 128 ^ k * (d[k].toNat % 128) = y at *
  omega

/-- the shortest form of a number, with room for f bytes more -/
def vif : Nat → Nat → List UInt8
  | 0, x => [UInt8.ofNat x]
  | f + 1, x => if x < 128 then [UInt8.ofNat x] else UInt8.ofNat (x % 128 + 128) :: vif f (x / 128)
/-- the shortest form of a number below 2^64 -/
def vi (x : Nat) : List UInt8 := vif 9 x


/-- k bytes of x's shortest form, o, have been written; y is left -/
def VI (x k y : Nat) (o : List UInt8) : Prop := k ≤ 9 ∧ y * 128 ^ k < 18446744073709551616 ∧ vi x = o ++ vif (9 - k) y ∧ o.length = k
theorem VI.start (x : Nat) (h : x < 18446744073709551616) : VI x 0 x [] := ⟨by omega, by omega, rfl, rfl⟩
theorem VI.lt {x k y : Nat} {o : List UInt8} (h : VI x k y o) (hy : ¬ y < 128) : k < 9 := by
  obtain ⟨h1, h2, -, -⟩ := h
  rcases Nat.lt_or_ge k 9 with h9 | h9
  · exact h9
  · have hk : k = 9 := by omega
    subst hk
    have h3 : 128 ^ 9 = 9223372036854775808 := by decide
    rw [h3] at h2; omega
theorem VI.le {x k y : Nat} {o : List UInt8} (h : VI x k y o) : y < 18446744073709551616 := Nat.lt_of_le_of_lt (Nat.le_mul_of_pos_right _ (Nat.pow_pos (by decide))) h.2.1
theorem wrap_div (y n : Nat) (h : y < 18446744073709551616) : IntKind.u64.wrap ((y : Int) / (n : Int)) = ((y / n : Nat) : Int) := by
  have h1 := Nat.div_le_self y n
  have h2 : ((y : Int) / (n : Int)) = ((y / n : Nat) : Int) := rfl
  rw [IntKind.wrap_u64, h2]
  generalize y / n = z at *
  omega
theorem wrap_quo (y : Nat) (n : Nat) (h : y < 18446744073709551616) : IntKind.u64.wrap ((y : Int) / (n : Int)) = (y : Int) / (n : Int) := wrap_div y n h
theorem wrap_quo8 (y : Nat) (h : y < 18446744073709551616) : IntKind.u64.wrap ((y : Int) / 8) = (y : Int) / 8 := wrap_div y 8 h
theorem VI.more {x k y : Nat} {o : List UInt8} (h : VI x k y o) (hy : ¬ y < 128) : VI x (k + 1) (y / 128) (o ++ [UInt8.ofNat (y % 128 + 128)]) := by
  have h9 := h.lt hy
  obtain ⟨h1, h2, h3, h4⟩ := h
  refine ⟨by omega, ?_, ?_, by simp [h4]⟩
  · have : y / 128 * 128 ≤ y := Nat.div_mul_le_self y 128
    have h5 : y / 128 * 128 * 128 ^ k ≤ y * 128 ^ k := Nat.mul_le_mul_right _ this
    rw [Nat.pow_succ, Nat.mul_comm (128 ^ k), ← Nat.mul_assoc]; omega
  · rw [h3, show 9 - k = (9 - (k + 1)) + 1 by omega]
    simp [vif, hy]
theorem VI.last {x k y : Nat} {o : List UInt8} (h : VI x k y o) (hy : y < 128) : vi x = o ++ [UInt8.ofNat y] := by
  rw [h.2.2.1]
  cases 9 - k <;> simp [vif, hy]

theorem u8_or128' (y : Nat) : bits .or .u8 ((y : Int) % 256) 128 = ((UInt8.ofNat (y % 128 + 128)).toNat : Int) := by
  have h1 : bits .or .u8 ((y % 256 : Nat) : Int) ((128 : Nat) : Int) = ((y % 256 ||| 128 : Nat) : Int) := (bits_nat .u8 8 (by decide) wraps_u8 (y % 256) 128 (by omega) (by omega)).2
  have h2 : y % 256 ||| 128 = y % 128 + 128 := by
    have e : y % 256 = y % 128 + 128 * (y / 128 % 2) := by omega
    have h3 : (128 * 1) ||| (y % 128) = 128 * 1 + y % 128 := by
      have := Nat.two_pow_add_eq_or_of_lt (i := 7) (b := y % 128) (by omega) 1
      simpa using this.symm
    rcases (by omega : y / 128 % 2 = 0 ∨ y / 128 % 2 = 1) with h | h
    · rw [e, h, Nat.mul_zero, Nat.add_zero, Nat.or_comm]; simpa [Nat.add_comm] using h3
    · have h4 := Nat.two_pow_add_eq_or_of_lt (i := 7) (b := y % 128) (by omega) 1
      have e2 : y % 128 + 128 * 1 = 128 ||| (y % 128) := by rw [Nat.add_comm]; simpa using h4
      rw [e, h, e2, Nat.or_comm, ← Nat.or_assoc, Nat.or_self, ← e2]
  have h5 : (UInt8.ofNat (y % 128 + 128)).toNat = y % 128 + 128 := by simp; omega
  rw [h5, ← h2, ← h1]; rfl
theorem u8_add128 (y : Nat) : ((y : Int) % 128 + 128) % 256 = ((UInt8.ofNat (y % 128 + 128)).toNat : Int) := by
  have h5 : (UInt8.ofNat (y % 128 + 128)).toNat = y % 128 + 128 := by simp; omega
  rw [h5]; omega
theorem u8_of (y : Nat) (h : y < 128) : (y : Int) = ((UInt8.ofNat y).toNat : Int) := by
  have h5 : (UInt8.ofNat y).toNat = y := by simp; omega
  rw [h5]

/-- a number as n bytes, the least one first -/
def fix8 (x n : Nat) : List UInt8 := (List.range n).map fun i => UInt8.ofNat (x / 256 ^ i)
theorem fix8_succ (x n : Nat) : fix8 x (n + 1) = fix8 x n ++ [UInt8.ofNat (x / 256 ^ n)] := by simp [fix8, List.range_succ]
theorem fix8_len (x n : Nat) : (fix8 x n).length = n := by simp [fix8]
theorem u8_add128' (y : Nat) : (y : Int) % 128 + 128 = ((UInt8.ofNat (y % 128 + 128)).toNat : Int) := by
  have h5 : (UInt8.ofNat (y % 128 + 128)).toNat = y % 128 + 128 := by simp; omega
  rw [h5]; rfl
theorem u8_shr (x k : Nat) : ((x : Int) / 2 ^ (8 * k)) % 256 = ((UInt8.ofNat (x / 256 ^ k)).toNat : Int) := by
  rw [pow256]; simp
theorem fix8_div (x k : Nat) : x / 256 ^ k / 256 = x / 256 ^ (k + 1) := by rw [Nat.div_div_eq_div_mul, Nat.pow_succ]
theorem u8_mod (y : Nat) : (y : Int) % 256 = ((UInt8.ofNat y).toNat : Int) := by simp
theorem u8_wrap (y : Nat) : (y : Int) % 256 = ((UInt8.ofNat y).toNat : Int) := by simp

/-! ### fields -/
/-- what stands behind a tag: number, bytes, the place behind -/
def part (l : List UInt8) (p : Nat) (wire : Nat) : Option (Nat × List UInt8 × Nat) :=
  if wire = 0 then (rdv 0 (l.drop p)).map fun q => (q.1, [], p + q.2)
  else if wire = 1 then (if p + 8 ≤ l.length then some (lit8 ((l.drop p).take 8), [], p + 8) else none)
  else if wire = 5 then (if p + 4 ≤ l.length then some (lit8 ((l.drop p).take 4), [], p + 4) else none)
  else if wire = 2 then (rdv 0 (l.drop p)).bind fun q => if p + q.2 + q.1 ≤ l.length then some (0, (l.drop (p + q.2)).take q.1, p + q.2 + q.1) else none
  else none

theorem rdv_len (l : List UInt8) : ∀ i x n, rdv i l = some (x, n) → 1 ≤ n ∧ n ≤ l.length := by
  induction l with
  | nil => intro i x n h; simp [rdv] at h
  | cons c l ih =>
    intro i x n h
    unfold rdv at h
    split at h
    · cases h
    · split at h
      · simp only [Option.some.injEq, Prod.mk.injEq] at h
        simp; omega
      · simp only [Option.map_eq_some_iff, Prod.mk.injEq] at h
        obtain ⟨q, hq, h1, h2⟩ := h
        have := ih _ _ _ hq
        simp; omega

theorem rdv_lt (l : List UInt8) : ∀ i x n, i ≤ 9 → rdv i l = some (x, n) → x * 128 ^ i < 18446744073709551616 := by
  induction l with
  | nil => intro i x n hi h; simp [rdv] at h
  | cons c l ih =>
    intro i x n hi h
    unfold rdv at h
    split at h
    · cases h
    · rename_i h9
      split at h
      · simp only [Option.some.injEq, Prod.mk.injEq] at h
        obtain ⟨rfl, rfl⟩ := h
        by_cases e : i = 9
        · subst e
          have h3 : 128 ^ 9 = 9223372036854775808 := by decide
          rw [h3]; omega
        · have h3 : 128 ^ i ≤ 128 ^ 8 := Nat.pow_le_pow_right (by decide) (by omega)
          have h4 : c.toNat * 128 ^ i ≤ 128 * 128 ^ i := Nat.mul_le_mul_right _ (by omega)
          have h5 : 128 ^ 8 = 72057594037927936 := by decide
          omega
      · simp only [Option.map_eq_some_iff, Prod.mk.injEq] at h
        obtain ⟨q, hq, h1, h2⟩ := h
        have hc := c.toNat_lt
        by_cases e : i = 9
        · omega
        · have := ih (i + 1) q.1 q.2 (by omega) hq
          have h6 : (c.toNat - 128) * 128 ^ i ≤ 127 * 128 ^ i := Nat.mul_le_mul_right _ (by omega)
          have h7 : 0 < 128 ^ i := Nat.pow_pos (by decide)
          rw [Nat.pow_succ, Nat.mul_comm (128 ^ i), ← Nat.mul_assoc] at this
          rw [← h1, Nat.add_mul, Nat.mul_comm 128 q.1]
          have h8 : 18446744073709551616 = 128 ^ i * (18446744073709551616 / 128 ^ i) := by
            have : 128 ^ i * 128 ^ (9 - i) * 2 = 18446744073709551616 := by rw [← Nat.pow_add, show i + (9 - i) = 9 by omega]
            have h9 : 18446744073709551616 / 128 ^ i = 128 ^ (9 - i) * 2 := by
              rw [← this, Nat.mul_assoc, Nat.mul_div_cancel_left _ h7]
            rw [h9, ← Nat.mul_assoc, this]
          have h10 : q.1 * 128 * 128 ^ i + 128 * 128 ^ i ≤ 18446744073709551616 := by
            have hd : 128 * 128 ^ i ∣ 18446744073709551616 := by
              refine ⟨128 ^ (8 - i) * 2, ?_⟩
              rw [← Nat.mul_assoc, Nat.mul_comm 128, ← Nat.pow_succ, ← Nat.pow_add, show i + 1 + (8 - i) = 9 by omega]
            obtain ⟨z, hz⟩ := hd
            rw [hz]
            have hlt : 128 * 128 ^ i * q.1 < 128 * 128 ^ i * z := by rw [← hz]; rw [Nat.mul_comm (128 * 128 ^ i), ← Nat.mul_assoc]; exact this
            have hq1 : q.1 < z := Nat.lt_of_mul_lt_mul_left hlt
            have h11 : 128 * 128 ^ i * (q.1 + 1) ≤ 128 * 128 ^ i * z := Nat.mul_le_mul_left _ hq1
            rw [Nat.mul_add, Nat.mul_one] at h11
            rw [Nat.mul_assoc, Nat.mul_comm q.1]; exact h11
          omega

theorem part_le {l : List UInt8} {p wire x q : Nat} {d : List UInt8} (hp : p ≤ l.length) (h : part l p wire = some (x, d, q)) : p ≤ q ∧ q ≤ l.length := by
  unfold part at h
  split at h
  · simp only [Option.map_eq_some_iff, Prod.mk.injEq] at h
    obtain ⟨r, hr, -, -, h3⟩ := h
    have := rdv_len _ _ _ _ hr
    rw [List.length_drop] at this
    omega
  · split at h
    · split at h
      · simp only [Option.some.injEq, Prod.mk.injEq] at h; omega
      · cases h
    · split at h
      · split at h
        · simp only [Option.some.injEq, Prod.mk.injEq] at h; omega
        · cases h
      · split at h
        · simp only [Option.bind_eq_some_iff] at h
          obtain ⟨r, hr, h⟩ := h
          split at h
          · simp only [Option.some.injEq, Prod.mk.injEq] at h
            omega
          · cases h
        · cases h

/-- a field -/
structure Fld where
  num : Int
  wire : Int
  x : Nat
  data : List UInt8

/-- the field at a place, and the place behind -/
def rdF (l : List UInt8) (p : Nat) : Option (Fld × Nat) :=
  match rdv 0 (l.drop p) with
  | none => none
  | some (tag, n) => if tag / 8 < 1 ∨ 536870911 < tag / 8 then none else (part l (p + n) (tag % 8)).map fun q => (⟨(tag / 8 : Nat), (tag % 8 : Nat), q.1, q.2.1⟩, q.2.2)

theorem rdF_none {l : List UInt8} {p : Nat} (h : rdv 0 (l.drop p) = none) : rdF l p = none := by simp [rdF, h]
theorem rdF_bad {l : List UInt8} {p tag n : Nat} (h : rdv 0 (l.drop p) = some (tag, n)) (hb : tag / 8 < 1 ∨ 536870911 < tag / 8) : rdF l p = none := by simp only [rdF, h, if_pos hb]
theorem rdF_part {l : List UInt8} {p tag n : Nat} (h : rdv 0 (l.drop p) = some (tag, n)) (hb : ¬ (tag / 8 < 1 ∨ 536870911 < tag / 8)) :
    rdF l p = (part l (p + n) (tag % 8)).map fun q => (⟨(tag / 8 : Nat), (tag % 8 : Nat), q.1, q.2.1⟩, q.2.2) := by simp only [rdF, h, if_neg hb]
theorem or8 (m c : Nat) (hc : c < 8) (hm : m ≤ 536870911) : bits .or .u64 ((m : Int) * 8) (c : Int) = ((m * 8 + c : Nat) : Int) := by
  have h1 := bits_or_u64_nat (m * 8) c (by omega) (by omega)
  have h2 : m * 8 ||| c = m * 8 + c := by
    have := Nat.two_pow_add_eq_or_of_lt (i := 3) (b := c) hc m
    rw [Nat.mul_comm]; exact this.symm
  rw [h2] at h1
  exact h1
theorem u64_and7 (x : Nat) (h : x < 18446744073709551616) : bits .and .u64 (x : Int) 7 = (x : Int) % 8 := by
  have h1 := bits_and_u64_nat x 7 h (by omega)
  have h2 : x &&& 7 = x % 8 := Nat.and_two_pow_sub_one_eq_mod x 3
  rw [h2] at h1
  exact h1

theorem rdF_le {l : List UInt8} {p q : Nat} {f : Fld} (hp : p ≤ l.length) (h : rdF l p = some (f, q)) : p < q ∧ q ≤ l.length := by
  unfold rdF at h
  split at h
  · cases h
  · rename_i tag n ht
    have := rdv_len _ _ _ _ ht
    rw [List.length_drop] at this
    split at h
    · cases h
    · simp only [Option.map_eq_some_iff, Prod.mk.injEq] at h
      obtain ⟨r, hr, -, h2⟩ := h
      have := part_le (x := r.1) (d := r.2.1) (q := r.2.2) (by omega) hr
      omega

/-- the fields from a place on, with fuel -/
def rda : Nat → List UInt8 → Nat → Option (List Fld)
  | 0, _, _ => none
  | f + 1, l, p => if p = l.length then some [] else match rdF l p with
    | none => none
    | some (a, q) => (rda f l q).map (a :: ·)

/-- a message's fields -/
def rd (l : List UInt8) : Option (List Fld) := rda (l.length + 1) l 0
/-- what Read answers -/
def readE (l : List UInt8) : List Fld × Int :=
  if 4194304 < l.length then ([], 8) else match rd l with
    | none => ([], 6)
    | some fs => (fs, 0)

/-- some fields have been read, up to a place -/
def RD (l : List UInt8) (fs : List Fld) (p : Nat) : Prop := p ≤ l.length ∧ fs.length ≤ p ∧ ∃ f, l.length < p + f ∧ rd l = (rda f l p).map (fs ++ ·)
theorem RD.start (l : List UInt8) : RD l [] 0 := ⟨Nat.zero_le _, Nat.le_refl _, l.length + 1, by omega, by simp [rd]⟩
theorem RD.none_ {l : List UInt8} {fs : List Fld} {p : Nat} (h : RD l fs p) (hp : p < l.length) (hn : rdF l p = none) : rd l = none := by
  obtain ⟨h1, -, f, h2, h3⟩ := h
  cases f with
  | zero => omega
  | succ f => rw [h3]; simp [rda, hn]; omega
theorem RD.last {l : List UInt8} {fs : List Fld} {p : Nat} (h : RD l fs p) (hp : p = l.length) : rd l = some fs := by
  obtain ⟨h1, -, f, h2, h3⟩ := h
  cases f with
  | zero => omega
  | succ f => rw [h3]; simp [rda, hp]
theorem RD.more {l : List UInt8} {fs : List Fld} {p q : Nat} {a : Fld} (h : RD l fs p) (hp : p < l.length) (hn : rdF l p = some (a, q)) : RD l (fs ++ [a]) q := by
  have hq := rdF_le h.1 hn
  obtain ⟨h1, h4, f, h2, h3⟩ := h
  cases f with
  | zero => omega
  | succ f =>
    refine ⟨hq.2, by simp; omega, f, by omega, ?_⟩
    rw [h3]
    have hne : ¬ p = l.length := by omega
    simp only [rda, hne, if_false, hn, Option.map_map]
    refine congrArg (fun g => Option.map g _) (funext fun r => ?_)
    simp [Function.comp]

/-- may a field be written? (n: how many bytes it holds) -/
def mayN (num wire : Int) (x n : Nat) : Bool :=
  decide (1 ≤ num) && decide (num ≤ 536870911) && (if wire = 0 ∨ wire = 1 then decide (n = 0) else if wire = 5 then decide (n = 0) && decide (x < 4294967296) else if wire = 2 then decide (x = 0) else false)
def mayF (f : Fld) : Bool := mayN f.num f.wire f.x f.data.length

/-- a field's bytes -/
def wrF (f : Fld) : List UInt8 :=
  vi (f.num.toNat * 8 + f.wire.toNat) ++ (if f.wire = 0 then vi f.x else if f.wire = 1 then fix8 f.x 8 else if f.wire = 5 then fix8 f.x 4 else vi f.data.length ++ f.data)
/-- a message's bytes -/
def wr (fs : List Fld) : List UInt8 := fs.flatMap wrF
/-- what Write answers -/
def writeE (fs : List Fld) : List UInt8 × Int :=
  if fs.all mayF = true then (if 4194304 < (wr fs).length then ([], 8) else (wr fs, 0)) else ([], 1)

theorem wr_take (fs : List Fld) (k : Nat) (h : k < fs.length) : wr (fs.take (k + 1)) = wr (fs.take k) ++ wrF fs[k] := by
  unfold wr; rw [List.take_succ_eq_append_getElem h, List.flatMap_append]; simp
theorem wr_take_le (fs : List Fld) (k : Nat) : (wr (fs.take k)).length ≤ (wr fs).length := by
  have : wr fs = wr (fs.take k) ++ wr (fs.drop k) := by unfold wr; rw [← List.flatMap_append, List.take_append_drop]
  rw [this, List.length_append]; omega
theorem vif_len (f x : Nat) : (vif f x).length ≤ f + 1 ∧ 1 ≤ (vif f x).length := by
  induction f generalizing x with
  | zero => simp [vif]
  | succ f ih =>
    unfold vif
    split
    · simp
    · have := ih (x / 128); simp; omega
theorem vi_len (x : Nat) : (vi x).length ≤ 10 ∧ 1 ≤ (vi x).length := vif_len 9 x
/-- what a field that may be written is -/
theorem mayF_cases {f : Fld} (h : mayF f = true) : ∃ m : Nat, f.num = m ∧ 1 ≤ m ∧ m ≤ 536870911 ∧ ((f.wire = 0 ∧ f.data = []) ∨ (f.wire = 1 ∧ f.data = []) ∨ (f.wire = 5 ∧ f.data = [] ∧ f.x < 4294967296) ∨ (f.wire = 2 ∧ f.x = 0)) := by
  unfold mayF mayN at h
  simp only [Bool.and_eq_true, decide_eq_true_eq] at h
  obtain ⟨⟨h1, h2⟩, h3⟩ := h
  obtain ⟨m, hm⟩ := Int.eq_ofNat_of_zero_le (by omega : 0 ≤ f.num)
  refine ⟨m, hm, by omega, by omega, ?_⟩
  split at h3
  · rename_i hw
    have : f.data = [] := List.eq_nil_of_length_eq_zero (by simpa using h3)
    rcases hw with hw | hw
    · exact .inl ⟨hw, this⟩
    · exact .inr (.inl ⟨hw, this⟩)
  · split at h3
    · rename_i hw
      simp only [Bool.and_eq_true, decide_eq_true_eq] at h3
      exact .inr (.inr (.inl ⟨hw, List.eq_nil_of_length_eq_zero h3.1, h3.2⟩))
    · split at h3
      · rename_i hw
        exact .inr (.inr (.inr ⟨hw, by simpa using h3⟩))
      · cases h3

theorem rdv_lt64 {l : List UInt8} {x n : Nat} (h : rdv 0 l = some (x, n)) : x < 18446744073709551616 := by
  have := rdv_lt l 0 x n (by omega) h
  omega

end Go.Proofs.YtlhpmlknmgocoaaGreat

/- Contracts of little and ReadVarint, of the program and of the document's answer. -/
namespace Go.Proofs.YtlhpmlknmgocoaaGreat
open Go.RowKit

set_option maxHeartbeats 400000 in
theorem little_any (B : Nat) (A : Option Addr) (cap : Nat) (l : List UInt8) (w : World) (hl : l.length ≤ 8) (hb : RB w B A l) :
    Calls Tryz.prog 102 #[.slice A l.length cap] w fun e w' => e = .returned (.int .u64 (lit8 l : Int)) ∧ w = w' := by
  go_enter Tryz.func102, Tryz.ntmps102
  go_wp2
  go_loop [3, 8] (fun x i => ∃ k : Nat, k ≤ l.length ∧ i = .int .i64 (k : Int) ∧ x = .int .u64 (lit8 (l.take k) : Int)) (fun _ i => l.length - (intOf i).toNat)
  case atStart => exact ⟨0, Nat.zero_le _, rfl, by simp [lit8]⟩
  case round =>
    obtain ⟨k, hk, rfl, rfl⟩ := hrel
    by_cases hlt : k < l.length
    · obtain ⟨b, off, rfl, -, hc⟩ := hb.at_ hlt
      have hd := lit8_take l k hlt
      have hj := lit8_join l k hlt hl
      have HD := Lib.hid hd
      have HJ := Lib.hid hj
      have hb := (l[k]).toNat_lt
      clear hd hj
      go_wp2
      go_round
      case rel => exact ⟨k + 1, by omega, by go_num, by rw [HD.out, ← HJ.out]⟩
      case measure => simp [intOf]; omega
    · go_wp2
      go_ret
      exact ⟨ret_int (by rw [List.take_of_length_le (by omega)]), rfl⟩

/-- three results of ReadVarint -/
def rvVal (r : Nat × Int × Int) : Value := .tuple #[.int .u64 r.1, .int .i64 r.2.1, .int .i64 r.2.2]
theorem rv_fin {r : Nat × Int × Int} {x : Nat} {m a c : Int} (hr : r = (x, m, 0)) (h1 : a = x) (h2 : c = m) : Ending.returned (.tuple #[.int .u64 a, .int .i64 c, .int .i64 0]) = .returned (rvVal r) := by
  rw [hr, h1, h2]; rfl

set_option maxRecDepth 100000 in
set_option maxHeartbeats 400000 in
theorem rdvar_any (B : Nat) (A : Option Addr) (cap : Nat) (l : List UInt8) (p : Int) (w : World) (hcap : l.length ≤ cap) (hm : cap ≤ maxLen) (hb : RB w B A l) :
    Calls Tryz.prog 84 #[.slice A l.length cap, .int .i64 p] w fun e w' => e = .returned (rvVal (rvar l p)) ∧ w = w' := by
  unfold maxLen at hm
  by_cases h0 : p < 0
  · go_enter Tryz.func84, Tryz.ntmps84
    go_wp2
    go_ret3
    exact ⟨by rw [rvar_out (.inl h0)]; rfl, rfl⟩
  by_cases h1 : (l.length : Int) < p
  · go_enter Tryz.func84, Tryz.ntmps84
    go_wp2
    go_ret3
    exact ⟨by rw [rvar_out (.inr h1)]; rfl, rfl⟩
  obtain ⟨q, rfl⟩ := Int.eq_ofNat_of_zero_le (by omega : 0 ≤ p)
  have hq : q ≤ l.length := by omega
  have hcut := hb.cutA (k := q) hq hcap
  clear h0 h1
  have hq0 : decide ((q : Int) < 0) = false := by simp
  have hq1 : decide (l.length < q) = false := by simp; omega
  go_enter Tryz.func84, Tryz.ntmps84
  go_wp2
  generalize cutA A cap q = A' at hcut ⊢
  clear hq0 hq1
  go_loop [7, 22] (fun x i => ∃ k n : Nat, i = .int .i64 (k : Int) ∧ x = .int .u64 (n : Int) ∧ RV (l.drop q) k n) (fun _ i => l.length - (intOf i).toNat)
  case atStart => exact ⟨0, 0, rfl, rfl, RV.start _⟩
  case round =>
    obtain ⟨k, n, rfl, rfl, hv⟩ := hrel
    have hk := hv.1
    have hdl : (l.drop q).length = l.length - q := by simp
    have hk9 := hv.2.1
    rw [hdl] at hk
    clear hdl
    by_cases hlt : k < l.length - q
    · have hlt' : k < (l.drop q).length := by simpa using hlt
      obtain ⟨b, off, rfl, -, hc⟩ := hcut.at_ hlt'
      have hb8 := (l.drop q)[k].toNat_lt
      by_cases h9 : k = 9 ∧ 1 < (l.drop q)[k].toNat
      · have HR := Lib.hid (rvar_none hq (hv.bad hlt' h9.1 h9.2))
        obtain ⟨h9, h91⟩ := h9
        subst h9
        generalize (l.drop q)[9].toNat = c at *
        clear hv
        go_wp2
        go_ret3
        exact ⟨by rw [HR.out]; rfl, rfl⟩
      · have HJ := Lib.hid (hv.join hlt' h9)
        have e1 := u8_and127 _ hb8
        by_cases hc8 : (l.drop q)[k].toNat < 128
        · have HR := Lib.hid (rvar_some hq (hv.last hlt' h9 hc8))
          generalize (l.drop q)[k].toNat = c at *
          by_cases h99 : k = 9
          · subst h99
            have hc1 : ¬ (1 < (c : Int)) := by omega
            have E3 := Lib.hid (wrap_two63 c hc8 (by omega))
            clear hv h9
            go_wp2
            go_ret3
            exact ⟨rv_fin HR.out ((E3.out ▸ HJ.out).trans (by rw [Nat.mod_eq_of_lt hc8])) (by omega), rfl⟩
          · have hk99 : ((k : Int) == 9) = false := by simp; omega
            clear hv h9 h99
            go_wp2
            go_ret3
            exact ⟨rv_fin HR.out (HJ.out.trans (by rw [Nat.mod_eq_of_lt hc8])) (by omega), rfl⟩
        · have HV := Lib.hid (hv.more hlt' h9 hc8)
          generalize (l.drop q)[k].toNat = c at *
          have hk99 : ((k : Int) == 9) = false := by simp; omega
          clear hv h9
          go_wp2
          go_round
          case rel => exact ⟨k + 1, _, by go_num, by rw [HJ.out, show c % 128 = c - 128 by omega], HV.out⟩
          case measure => simp [intOf]; omega
    · have HR := Lib.hid (rvar_none hq (hv.none_ (by simp; omega)))
      clear hv
      go_wp2
      go_ret3
      exact ⟨by rw [HR.out]; rfl, rfl⟩

end Go.Proofs.YtlhpmlknmgocoaaGreat

/- Contracts of fixed and Varint, of the program and of the document's answer: what is answered is a row of bytes of the call's own. -/
namespace Go.Proofs.YtlhpmlknmgocoaaGreat
open Go.RowKit

/-- a row of bytes is answered; of what was there nothing has turned -/
def MadeB (w : World) (l : List UInt8) (e : Ending) (w' : World) : Prop := ∃ v, e = .returned v ∧ OB w' w.heap.size v l ∧ Below w.heap.size w w'

/-- the loop of Varint -/
def VIrel (x : Nat) (w : World) (xv out : Value) (wr : World) : Prop := ∃ k y o, xv = .int .u64 (y : Nat) ∧ VI x k y o ∧ OB wr w.heap.size out o ∧ Below w.heap.size w wr

set_option maxHeartbeats 400000 in
theorem varint_any (x : Nat) (hx : x < 18446744073709551616) (w : World) :
    Calls Tryz.prog 55 #[.int .u64 x] w (MadeB w (vi x)) := by
  go_enter Tryz.func55, Tryz.ntmps55
  have hs := VI.start x hx
  clear hx
  go_wp2
  go_loopw [0, 3] (fun xv out wr => VIrel x w xv out wr) (fun xv _ _ => (intOf xv).toNat)
  case atStart => exact ⟨0, x, [], rfl, hs, OB.nil _ _, Below.refl _ _⟩
  case round =>
    obtain ⟨k, y, o, rfl, hv, hown, hb⟩ := hrel
    have hlen := hv.2.2.2
    have hk := hv.1
    have hsz := hb.size
    have HN := Lib.hid (u8_or128' y)
    by_cases hy : y < 128
    · have hy1 : ¬ (127 < (y : Int)) := by omega
      have HU := Lib.hid (u8_of y hy)
      have HL := Lib.hid (hv.last hy)
      clear hs hv
      go_wp2_with (at_builtin; refine append_byte rfl _ _ rfl hown rfl rfl rfl (UInt8.ofNat y) HU.out (by omega) hsz ?_; intro v' w' ho hg ha)
      go_ret
      exact ⟨_, rfl, by rw [HL.out]; exact ho, grown_below hown hg hsz (Nat.le_refl _) hb⟩
    · have hy1 : 127 < (y : Int) := by omega
      have HV := Lib.hid (hv.more hy)
      clear hs hv
      go_wp2_with (at_builtin; refine append_byte rfl _ _ rfl hown rfl rfl rfl _ HN.out (by omega) hsz ?_; intro v' w' ho hg ha)
      go_roundw
      case rel => exact ⟨_, _, _, rfl, HV.out, ho, grown_below hown hg hsz (Nat.le_refl _) hb⟩
      case measure => simp [intOf]; omega

set_option maxHeartbeats 400000 in
theorem rvarint_any (x : Nat) (hx : x < 18446744073709551616) (w : World) :
    Calls Tryz.prog 43 #[.int .u64 x] w (MadeB w (vi x)) := by
  go_enter Tryz.func43, Tryz.ntmps43
  have hs := VI.start x hx
  clear hx
  go_wp2
  go_loopw [0, 3] (fun xv out wr => VIrel x w xv out wr) (fun xv _ _ => (intOf xv).toNat)
  case atStart => exact ⟨0, x, [], rfl, hs, OB.nil _ _, Below.refl _ _⟩
  case round =>
    obtain ⟨k, y, o, rfl, hv, hown, hb⟩ := hrel
    have hlen := hv.2.2.2
    have hk := hv.1
    have hsz := hb.size
    have HN := Lib.hid (u8_add128' y)
    by_cases hy : y < 128
    · have hy1 : ¬ (128 ≤ (y : Int)) := by omega
      have HU := Lib.hid (u8_of y hy)
      have HL := Lib.hid (hv.last hy)
      clear hs hv
      go_wp2_with (at_builtin; refine append_byte rfl _ _ rfl hown rfl rfl rfl (UInt8.ofNat y) HU.out (by omega) hsz ?_; intro v' w' ho hg ha)
      go_ret
      exact ⟨_, rfl, by rw [HL.out]; exact ho, grown_below hown hg hsz (Nat.le_refl _) hb⟩
    · have hy1 : 128 ≤ (y : Int) := by omega
      have HV := Lib.hid (hv.more hy)
      have HD := Lib.hid (show IntKind.u64.wrap ((y : Int) / 128) = ((y / 128 : Nat) : Int) from wrap_div y 128 hv.le)
      clear hs hv
      go_wp2_with (at_builtin; refine append_byte rfl _ _ rfl hown rfl rfl rfl _ HN.out (by omega) hsz ?_; intro v' w' ho hg ha)
      go_roundw
      case rel => exact ⟨_, _, _, congrArg _ HD.out, HV.out, ho, grown_below hown hg hsz (Nat.le_refl _) hb⟩
      case measure => have := HD.out; simp only [intOf] at this ⊢; rw [this]; omega

/-- the loop of fixed -/
def FXrel (x : Nat) (n : Nat) (w : World) (i out : Value) (wr : World) : Prop := ∃ k : Nat, k ≤ n ∧ i = .int .i64 (k : Int) ∧ OB wr w.heap.size out (fix8 x k) ∧ Below w.heap.size w wr

set_option maxHeartbeats 400000 in
theorem fixed_any (x n : Nat) (hn : n ≤ 8) (w : World) :
    Calls Tryz.prog 56 #[.int .u64 x, .int .i64 n] w (MadeB w (fix8 x n)) := by
  go_enter Tryz.func56, Tryz.ntmps56
  go_wp2
  go_loopw [5, 8] (fun out i wr => FXrel x n w i out wr) (fun _ i _ => n - (intOf i).toNat)
  case atStart => exact ⟨0, Nat.zero_le _, rfl, OB.nil _ _, Below.refl _ _⟩
  case round =>
    obtain ⟨k, hk, rfl, hown, hb⟩ := hrel
    have hlen := fix8_len x k
    have hsz := hb.size
    by_cases hlt : k < n
    · have HN := Lib.hid (u8_shr x k)
      have HS := Lib.hid (fix8_succ x k)
      go_wp2_with (at_builtin; refine append_byte rfl _ _ rfl hown rfl rfl rfl _ HN.out (by omega) hsz ?_; intro v' w' ho hg ha)
      go_roundw
      case rel => exact ⟨k + 1, by omega, by go_num, by rw [HS.out]; exact ho, grown_below hown hg hsz (Nat.le_refl _) hb⟩
      case measure => simp [intOf]; omega
    · obtain rfl : k = n := by omega
      go_wp2
      go_ret
      exact ⟨_, rfl, hown, hb⟩

/-- the loop of the document's fixed -/
def RFXrel (x : Nat) (n : Nat) (w : World) (xv i out : Value) (wr : World) : Prop := ∃ k y : Nat, k ≤ n ∧ i = .int .i64 (k : Int) ∧ xv = .int .u64 (y : Int) ∧ y = x / 256 ^ k ∧ OB wr w.heap.size out (fix8 x k) ∧ Below w.heap.size w wr

/-- a bool is answered; at most the tape has been asked -/
def SaysQ (w : World) (b : Bool) (e : Ending) (w' : World) : Prop := e = .returned (.bool b) ∧ ∃ n, w' = w.drewN n

theorem take_same {a b : List UInt8} {k : Nat} (h : k < a.length) (h' : k < b.length) (ht : a.take k = b.take k) (hc : a[k] = b[k]) : a.take (k + 1) = b.take (k + 1) := by
  rw [List.take_succ_eq_append_getElem h, List.take_succ_eq_append_getElem h', ht, hc]

/-- the loop of SameBytes -/
def SBrel (a b : List UInt8) (w : World) (i : Value) (wr : World) : Prop := ∃ k n : Nat, k ≤ a.length ∧ i = .int .i64 (k : Int) ∧ a.take k = b.take k ∧ wr = w.drewN n

set_option maxHeartbeats 400000 in
theorem sameb_any (B : Nat) (A A' : Option Addr) (cap cap' : Nat) (a b : List UInt8) (w : World) (ha : RB w B A a) (hb : RB w B A' b) (hm : a.length ≤ maxLen) (hm' : b.length ≤ maxLen) :
    Calls Tryz.prog 9 #[.slice A a.length cap, .slice A' b.length cap'] w (SaysQ w (decide (a = b))) := by
  unfold maxLen at hm hm'
  by_cases hl : a.length = b.length
  · have hl1 : ((a.length : Int) != (b.length : Int)) = false := by rw [bne_eq_false_iff_eq]; omega
    have HL := Lib.hid hl
    go_enter Tryz.func9, Tryz.ntmps9
    clear hl
    go_wp2
    go_loopw [5] (fun i wr => SBrel a b w i wr) (fun i _ => a.length - (intOf i).toNat)
    case atStart => exact ⟨0, 0, Nat.zero_le _, rfl, rfl, rfl⟩
    case round =>
      obtain ⟨k, n, hk, rfl, ht, rfl⟩ := hrel
      have HT := Lib.hid ht
      clear ht
      by_cases hlt : k < a.length
      · have hlt' : k < b.length := by have := HL.out; omega
        obtain ⟨ba, oa, rfl, -, hca⟩ := ha.at_ hlt
        obtain ⟨bb, ob, rfl, -, hcb⟩ := hb.at_ hlt'
        have hlz : (k : Int) < (b.length : Int) := by omega
        have hly : (k : Int) < (a.length : Int) := by omega
        by_cases hc : a[k] = b[k]
        · have HS := Lib.hid (take_same hlt hlt' HT.out hc)
          have he : ((a[k].toNat : Int) != (b[k].toNat : Int)) = false := by rw [hc]; simp
          clear hc HT
          generalize a[k].toNat = x at *
          generalize b[k].toNat = y at *
          go_wp2
          go_quiet (fail)
          go_wp2
          go_roundw
          case rel => exact ⟨k + 1, _, by omega, by go_num, HS.out, rfl⟩
          case measure => simp [intOf]; omega
        · have HD := Lib.hid (show decide (a = b) = false from decide_eq_false (fun e => hc (by subst e; rfl)))
          have he : ((a[k].toNat : Int) != (b[k].toNat : Int)) = true := by
            rw [bne_iff_ne]; intro e; exact hc (UInt8.toNat_inj.1 (by omega))
          clear hc HT
          generalize a[k].toNat = x at *
          generalize b[k].toNat = y at *
          go_wp2
          go_quiet (fail)
          go_wp2
          go_ret
          exact ⟨by rw [HD.out]; rfl, _, World.drewN_drewN _ _ _⟩
      · have HD := Lib.hid (show decide (a = b) = true from decide_eq_true (by have := HT.out; have h2 := HL.out; rwa [List.take_of_length_le (by omega), List.take_of_length_le (by omega)] at this))
        go_wp2
        go_ret
        exact ⟨by rw [HD.out]; rfl, n, rfl⟩
  · have hl1 : ((a.length : Int) != (b.length : Int)) = true := by rw [bne_iff_ne]; omega
    have HD := Lib.hid (show decide (a = b) = false from decide_eq_false (fun e => hl (by rw [e])))
    clear hl
    go_enter Tryz.func9, Tryz.ntmps9
    go_wp2
    go_ret
    exact ⟨by rw [HD.out]; rfl, 0, rfl⟩
end Go.Proofs.YtlhpmlknmgocoaaGreat

/- The contract of pbuf.part: what stands behind a tag. -/
namespace Go.Proofs.YtlhpmlknmgocoaaGreat
open Go.RowKit

theorem results_tmp4 {fn : Func} {t u v x : Tmp} (h : fn.results = #[.tmp t, .tmp u, .tmp v, .tmp x]) (tmps : Array Value) (P : Program) (w : World) :
    (results fn tmps).run P w = .ok (.tuple #[tmps.getD t undef, tmps.getD u undef, tmps.getD v undef, tmps.getD x undef]) w := by simp [results, h]

/-- ReadVarint's contract where its answer is known -/
theorem rdvar_at {B : Nat} {A : Option Addr} {cap : Nat} {l : List UInt8} {p : Int} {w : World} {x : Nat} {m er : Int} (hr : Hid (rvar l p = (x, m, er))) (hcap : l.length ≤ cap) (hm : cap ≤ maxLen) (hb : RB w B A l) :
    Calls Tryz.prog 84 #[.slice A l.length cap, .int .i64 p] w fun e w' => e = .returned (.tuple #[.int .u64 x, .int .i64 m, .int .i64 er]) ∧ w = w' := by
  refine (rdvar_any B A cap l p w hcap hm hb).mono ?_
  rintro e w' ⟨rfl, rfl⟩
  exact ⟨by rw [hr.out]; rfl, rfl⟩

/-- what part answers -/
def PartR (w : World) (r : Option (Nat × List UInt8 × Nat)) (e : Ending) (w' : World) : Prop :=
  ∃ v, OB w' w.heap.size v ((r.map fun q => q.2.1).getD []) ∧ Below w.heap.size w w' ∧
    e = .returned (.tuple #[.int .u64 ((r.map fun q => q.1).getD 0 : Nat), v, .int .i64 ((r.map fun q => q.2.2).getD 0 : Nat), .bool r.isSome])

theorem PartR.none_ {w : World} {r : Option (Nat × List UInt8 × Nat)} (h : r = none) : PartR w r (.returned (.tuple #[.int .u64 0, .slice none 0 0, .int .i64 0, .bool false])) w := by
  subst h; exact ⟨_, OB.nil _ _, Below.refl _ _, rfl⟩
theorem PartR.num {w : World} {r : Option (Nat × List UInt8 × Nat)} {x n : Nat} {a b : Int} (h : r = some (x, [], n)) (h1 : a = x) (h2 : b = n) : PartR w r (.returned (.tuple #[.int .u64 a, .slice none 0 0, .int .i64 b, .bool true])) w := by
  subst h h1 h2; exact ⟨_, OB.nil _ _, Below.refl _ _, rfl⟩
theorem PartR.data {w w' : World} {v : Value} {r : Option (Nat × List UInt8 × Nat)} {l : List UInt8} {n : Nat} {b : Int} (h : r = some (0, l, n)) (ho : OB w' w.heap.size v l) (hb : Below w.heap.size w w') (h2 : b = n) : PartR w r (.returned (.tuple #[.int .u64 0, v, .int .i64 b, .bool true])) w' := by
  subst h h2; exact ⟨_, ho, hb, rfl⟩

set_option maxRecDepth 100000 in
set_option maxHeartbeats 400000 in
theorem part0 (B : Nat) (A : Option Addr) (cap : Nat) (l : List UInt8) (p : Nat) (w : World) (hp : p ≤ l.length) (hcap : l.length ≤ cap) (hm : cap ≤ maxLen) (hb : RB w B A l) :
    Calls Tryz.prog 85 #[.slice A l.length cap, .int .i64 p, .int .i64 0] w (PartR w (part l p 0)) := by
  cases h : rdv 0 (l.drop p) with
  | none =>
    have HR := Lib.hid (rvar_none hp h)
    have HP := Lib.hid (show part l p 0 = none by simp [part, h])
    clear h
    go_enter Tryz.func85, Tryz.ntmps85
    go_wp2_with (go_at_call 84; refine (rdvar_at HR hcap hm hb).mono ?_; rintro e w' ⟨rfl, rfl⟩)
    refine bodyPost_ret (results_tmp4 rfl _ _ _) rfl ?_
    exact PartR.none_ HP.out
  | some q =>
    obtain ⟨x, n⟩ := q
    have HR := Lib.hid (rvar_some hp h)
    have HP := Lib.hid (show part l p 0 = some (x, [], p + n) by simp [part, h])
    clear h
    go_enter Tryz.func85, Tryz.ntmps85
    go_wp2_with (go_at_call 84; refine (rdvar_at HR hcap hm hb).mono ?_; rintro e w' ⟨rfl, rfl⟩)
    refine bodyPost_ret (results_tmp4 rfl _ _ _) rfl ?_
    exact PartR.num HP.out rfl rfl

theorem little_n {B : Nat} {A : Option Addr} {cap n : Nat} {l : List UInt8} {w : World} (hn : Hid (l.length = n)) (h8 : n ≤ 8) (hb : RB w B A l) :
    Calls Tryz.prog 102 #[.slice A n cap] w fun e w' => e = .returned (.int .u64 (lit8 l : Int)) ∧ w = w' := by
  have := hn.out
  subst this
  exact little_any B A cap l w h8 hb

set_option maxRecDepth 100000 in
set_option maxHeartbeats 400000 in
theorem part1 (B : Nat) (A : Option Addr) (cap : Nat) (l : List UInt8) (p : Nat) (w : World) (hp : p ≤ l.length) (hcap : l.length ≤ cap) (hm : cap ≤ maxLen) (hb : RB w B A l) :
    Calls Tryz.prog 85 #[.slice A l.length cap, .int .i64 p, .int .i64 1] w (PartR w (part l p 1)) := by
  unfold maxLen at hm
  have hc := (hb.cutA (k := p) hp hcap).take 8
  by_cases h : p + 8 ≤ l.length
  · have HL : Hid (((l.drop p).take 8).length = 8) := by show _ = _; simp; omega
    have HP := Lib.hid (show part l p 1 = some (lit8 ((l.drop p).take 8), [], p + 8) by simp [part, h])
    have h1 : 8 ≤ (l.length : Int) - p := by omega
    have h2 : (p : Int) ≤ (p : Int) + 8 := by omega
    have h3 : (p : Int) + 8 ≤ (cap : Int) := by omega
    go_enter Tryz.func85, Tryz.ntmps85
    go_wp2_with (go_at_call 102; refine (little_n HL (by omega) hc).mono ?_; rintro e w' ⟨rfl, rfl⟩)
    refine bodyPost_ret (results_tmp4 rfl _ _ _) rfl ?_
    exact PartR.num HP.out rfl (by omega)
  · have HP := Lib.hid (show part l p 1 = none by simp [part, h])
    have h1 : ¬ 8 ≤ (l.length : Int) - p := by omega
    go_enter Tryz.func85, Tryz.ntmps85
    go_wp2
    refine bodyPost_ret (results_tmp4 rfl _ _ _) rfl ?_
    exact PartR.none_ HP.out

set_option maxRecDepth 100000 in
set_option maxHeartbeats 400000 in
theorem part5 (B : Nat) (A : Option Addr) (cap : Nat) (l : List UInt8) (p : Nat) (w : World) (hp : p ≤ l.length) (hcap : l.length ≤ cap) (hm : cap ≤ maxLen) (hb : RB w B A l) :
    Calls Tryz.prog 85 #[.slice A l.length cap, .int .i64 p, .int .i64 5] w (PartR w (part l p 5)) := by
  unfold maxLen at hm
  have hc := (hb.cutA (k := p) hp hcap).take 4
  by_cases h : p + 4 ≤ l.length
  · have HL : Hid (((l.drop p).take 4).length = 4) := by show _ = _; simp; omega
    have HP := Lib.hid (show part l p 5 = some (lit8 ((l.drop p).take 4), [], p + 4) by simp [part, h])
    have h1 : 4 ≤ (l.length : Int) - p := by omega
    have h2 : (p : Int) ≤ (p : Int) + 4 := by omega
    have h3 : (p : Int) + 4 ≤ (cap : Int) := by omega
    go_enter Tryz.func85, Tryz.ntmps85
    go_wp2_with (go_at_call 102; refine (little_n HL (by omega) hc).mono ?_; rintro e w' ⟨rfl, rfl⟩)
    refine bodyPost_ret (results_tmp4 rfl _ _ _) rfl ?_
    exact PartR.num HP.out rfl (by omega)
  · have HP := Lib.hid (show part l p 5 = none by simp [part, h])
    have h1 : ¬ 4 ≤ (l.length : Int) - p := by omega
    go_enter Tryz.func85, Tryz.ntmps85
    go_wp2
    refine bodyPost_ret (results_tmp4 rfl _ _ _) rfl ?_
    exact PartR.none_ HP.out

set_option maxRecDepth 100000 in
set_option maxHeartbeats 400000 in
theorem part2 (B : Nat) (A : Option Addr) (cap : Nat) (l : List UInt8) (p : Nat) (w : World) (hp : p ≤ l.length) (hcap : l.length ≤ cap) (hm : cap ≤ maxLen) (hb : RB w B A l) (hB : B ≤ w.heap.size) (h47 : l.length ≤ 140737488355328) :
    Calls Tryz.prog 85 #[.slice A l.length cap, .int .i64 p, .int .i64 2] w (PartR w (part l p 2)) := by
  have hm' := hm
  unfold maxLen at hm
  cases h : rdv 0 (l.drop p) with
  | none =>
    have HR := Lib.hid (rvar_none hp h)
    have HP := Lib.hid (show part l p 2 = none by simp [part, h])
    clear h
    go_enter Tryz.func85, Tryz.ntmps85
    go_wp2_with (go_at_call 84; refine (rdvar_at HR hcap hm' hb).mono ?_; rintro e w' ⟨rfl, rfl⟩)
    refine bodyPost_ret (results_tmp4 rfl _ _ _) rfl ?_
    exact PartR.none_ HP.out
  | some q =>
    obtain ⟨x, n⟩ := q
    have HR := Lib.hid (rvar_some hp h)
    have hn := rdv_len _ _ _ _ h
    rw [List.length_drop] at hn
    by_cases hx : p + n + x ≤ l.length
    · have HP := Lib.hid (show part l p 2 = some (0, (l.drop (p + n)).take x, p + n + x) by simp [part, h, hx])
      have hc := (hb.cutA (k := p + n) (by omega) hcap).take x
      have hlen : ((l.drop (p + n)).take x).length = x := by simp; omega
      have HL := Lib.hid hlen
      have h2 : (p : Int) + n ≤ (p : Int) + n + x := by omega
      have h4 : 0 ≤ (p : Int) + n := by omega
      have h3 : (p : Int) + n + x ≤ (cap : Int) := by omega
      clear h hlen
      go_enter Tryz.func85, Tryz.ntmps85
      go_wp2_with (first
        | (go_at_call 84; refine (rdvar_at HR hcap hm' hb).mono ?_; rintro e w' ⟨rfl, rfl⟩)
        | (at_builtin; go_must (refine append_bytes rfl _ _ rfl (OB.made w w.heap.size (Nat.le_refl _)) rfl ((l.drop (p + n)).take x) rfl (by rw [HL.out]; omega) (hc.alloc hB _) (by have := HL.out; simp; omega) (by simp) ?_; intro v' w' ho hg ha)))
      refine bodyPost_ret (results_tmp4 rfl _ _ _) rfl ?_
      exact PartR.data HP.out (by simpa using ho) (((Below.refl _ _).alloc (Nat.le_refl _) _).grown hg (by simp) (by simp [Value.ownBlock])) (by omega)
    · have HP := Lib.hid (show part l p 2 = none by simp [part, h, hx])
      have hx1 : ¬ ((x : Int) ≤ (l.length : Int) - (p + n)) := by omega
      clear h
      go_enter Tryz.func85, Tryz.ntmps85
      go_wp2_with (go_at_call 84; refine (rdvar_at HR hcap hm' hb).mono ?_; rintro e w' ⟨rfl, rfl⟩)
      refine bodyPost_ret (results_tmp4 rfl _ _ _) rfl ?_
      exact PartR.none_ HP.out

set_option maxRecDepth 100000 in
set_option maxHeartbeats 400000 in
theorem partx (A : Option Addr) (cap : Nat) (l : List UInt8) (p : Nat) (wire : Nat) (w : World) (h0 : wire ≠ 0) (h1 : wire ≠ 1) (h2 : wire ≠ 2) (h5 : wire ≠ 5) :
    Calls Tryz.prog 85 #[.slice A l.length cap, .int .i64 p, .int .i64 wire] w (PartR w (part l p wire)) := by
  have HP := Lib.hid (show part l p wire = none by simp [part, h0, h1, h2, h5])
  have e0 : ((wire : Int) == 0) = false := by simp; omega
  have e1 : ((wire : Int) == 1) = false := by rw [beq_eq_false_iff_ne]; omega
  have e2 : ((wire : Int) == 2) = false := by rw [beq_eq_false_iff_ne]; omega
  have e5 : ((wire : Int) == 5) = false := by rw [beq_eq_false_iff_ne]; omega
  go_enter Tryz.func85, Tryz.ntmps85
  go_wp2
  refine bodyPost_ret (results_tmp4 rfl _ _ _) rfl ?_
  exact PartR.none_ HP.out

theorem part_any (B : Nat) (A : Option Addr) (cap : Nat) (l : List UInt8) (p : Nat) (wire : Nat) (w : World) (hp : p ≤ l.length) (hcap : l.length ≤ cap) (hm : cap ≤ maxLen) (hb : RB w B A l) (hB : B ≤ w.heap.size) (h47 : l.length ≤ 140737488355328) :
    Calls Tryz.prog 85 #[.slice A l.length cap, .int .i64 p, .int .i64 wire] w (PartR w (part l p wire)) := by
  by_cases h0 : wire = 0
  · subst h0; exact part0 B A cap l p w hp hcap hm hb
  by_cases h1 : wire = 1
  · subst h1; exact part1 B A cap l p w hp hcap hm hb
  by_cases h2 : wire = 2
  · subst h2; exact part2 B A cap l p w hp hcap hm hb hB h47
  by_cases h5 : wire = 5
  · subst h5; exact part5 B A cap l p w hp hcap hm hb
  exact partx A cap l p wire w h0 h1 h2 h5
end Go.Proofs.YtlhpmlknmgocoaaGreat

/- Words for rows of fields: four cells each, the last one a slice of bytes. -/
namespace Go.Proofs.YtlhpmlknmgocoaaGreat
open Go.RowKit

/-- a field's four cells; dv: its bytes' slice value -/
def fcell (f : Fld) (dv : Value) : List Value := [.int .i64 f.num, .int .i64 f.wire, .int .u64 (f.x : Int), dv]
def fcells : List Fld → List Value → List Value
  | f :: fs, d :: ds => fcell f d ++ fcells fs ds
  | _, _ => []
theorem fcells_len : ∀ (fs : List Fld) (ds : List Value), ds.length = fs.length → (fcells fs ds).length = fs.length * 4
  | [], [], _ => rfl
  | f :: fs, d :: ds, h => by
    have := fcells_len fs ds (by simpa using h)
    simp [fcells, fcell, this]; omega
  | [], _ :: _, h => by simp at h
  | _ :: _, [], h => by simp at h
theorem fcells_snoc (f : Fld) (d : Value) : ∀ (fs : List Fld) (ds : List Value), ds.length = fs.length → fcells (fs ++ [f]) (ds ++ [d]) = fcells fs ds ++ fcell f d
  | [], [], _ => by simp [fcells]
  | g :: fs, e :: ds, h => by
    have := fcells_snoc f d fs ds (by simpa using h)
    simp [fcells, this]
  | [], _ :: _, h => by simp at h
  | _ :: _, [], h => by simp at h
theorem fcells_get : ∀ (fs : List Fld) (ds : List Value) (_ : ds.length = fs.length) (i j : Nat) (h : i < fs.length) (h' : i < ds.length) (_ : j < 4), (fcells fs ds)[i * 4 + j]? = (fcell fs[i] ds[i])[j]?
  | f :: fs, d :: ds, h, 0, j, _, _, hj => by
    simp only [fcells, Nat.zero_mul, Nat.zero_add, List.getElem_cons_zero]
    rw [List.getElem?_append_left (by simpa [fcell] using hj)]
  | f :: fs, d :: ds, h, i + 1, j, h1, h2, hj => by
    have := fcells_get fs ds (by simpa using h) i j (by simpa using h1) (by simpa using h2) hj
    simp only [fcells, List.getElem_cons_succ]
    rw [List.getElem?_append_right (by simp [fcell]; omega), ← this]
    congr 1
    simp [fcell]; omega

/-- the same, its length behind a name -/
theorem OB.form2 {w : World} {base : Nat} {v : Value} {l : List UInt8} (h : OB w base v l) : ∃ A n cap, v = .slice A n cap ∧ Hid (n = l.length) ∧ n ≤ cap ∧ cap ≤ maxLen ∧ RB w w.heap.size A l := by
  obtain ⟨A, cap, h1, h2, h3, h4⟩ := h.form
  exact ⟨A, l.length, cap, h1, rfl, h2, h3, h4⟩
theorem blk4 {w : World} {g : Nat} {t : TypeId} {c0 c1 c2 c3 : Value} (hk : Blk w g t #[c0, c1, c2, c3]) :
    w.cell? ⟨g, 0, none⟩ = some c0 ∧ w.cell? ⟨g, 1, none⟩ = some c1 ∧ w.cell? ⟨g, 2, none⟩ = some c2 ∧ w.cell? ⟨g, 3, none⟩ = some c3 := ⟨hk.cell 0, hk.cell 1, hk.cell 2, hk.cell 3⟩

/-- a slice value that reads as bytes, below block B -/
def DV (w : World) (B : Nat) (dv : Value) (l : List UInt8) : Prop := ∃ A cap, dv = .slice A l.length cap ∧ l.length ≤ cap ∧ cap ≤ maxLen ∧ RB w B A l
theorem DV.below {w w' : World} {B : Nat} {dv : Value} {l : List UInt8} (h : DV w B dv l) (hb : Below B w w') : DV w' B dv l := by
  obtain ⟨A, cap, h1, h2, h3, h4⟩ := h
  exact ⟨A, cap, h1, h2, h3, h4.below hb⟩
theorem DV.more {w : World} {B B' : Nat} {dv : Value} {l : List UInt8} (h : DV w B dv l) (hb : B ≤ B') : DV w B' dv l := by
  obtain ⟨A, cap, h1, h2, h3, h4⟩ := h
  exact ⟨A, cap, h1, h2, h3, h4.more hb⟩
theorem OB.dv {w : World} {base : Nat} {v : Value} {l : List UInt8} (h : OB w base v l) : DV w w.heap.size v l := by
  obtain ⟨A, cap, h1, h2, h3, h4⟩ := h.form
  exact ⟨A, cap, h1, h2, h3, h4⟩

/-- the four cells of a block, behind what only makes new blocks -/
theorem cells_grown {w w1 : World} {g : Nat} {t : TypeId} {c0 c1 c2 c3 : Value} (hg : w.grownBy w1 none) (hk : Blk w g t #[c0, c1, c2, c3]) :
    w1.cell? ⟨g, 0, none⟩ = some c0 ∧ w1.cell? ⟨g, 1, none⟩ = some c1 ∧ w1.cell? ⟨g, 2, none⟩ = some c2 ∧ w1.cell? ⟨g, 3, none⟩ = some c3 ∧
      w1.frozen? ⟨g, 0, none⟩ = false ∧ w1.frozen? ⟨g, 1, none⟩ = false ∧ w1.frozen? ⟨g, 2, none⟩ = false ∧ w1.frozen? ⟨g, 3, none⟩ = false ∧ g < w1.heap.size := by
  have hk1 := hk.grown hg (by simp)
  exact ⟨hk1.cell 0, hk1.cell 1, hk1.cell 2, hk1.cell 3, hk1.frozen 0, hk1.frozen 1, hk1.frozen 2, hk1.frozen 3, hk1.lt⟩
theorem Blk.new' (w : World) (t : TypeId) (cs : Array Value) {g : Nat} (h : g = w.heap.size) : Blk (w.alloc (.cells cs t)) g t cs := by subst h; exact Blk.new w t cs

/-- a slice of fields that is read -/
def RF (w : World) (B : Nat) (A : Option Addr) (fs : List Fld) : Prop :=
  ∃ ds : List Value, ds.length = fs.length ∧ Reads w B 4 A fs.length (fcells fs ds) ∧ ∀ i (h : i < fs.length) (h' : i < ds.length), DV w B ds[i] fs[i].data

theorem RF.below {w w' : World} {B : Nat} {A : Option Addr} {fs : List Fld} (h : RF w B A fs) (hb : Below B w w') : RF w' B A fs := by
  obtain ⟨ds, h1, h2, h3⟩ := h
  exact ⟨ds, h1, h2.below hb, fun i h h' => (h3 i h h').below hb⟩
theorem RF.more {w : World} {B B' : Nat} {A : Option Addr} {fs : List Fld} (h : RF w B A fs) (hb : B ≤ B') : RF w B' A fs := by
  obtain ⟨ds, h1, h2, h3⟩ := h
  exact ⟨ds, h1, h2.more hb, fun i h h' => (h3 i h h').more hb⟩
theorem RF.at_ {w : World} {B : Nat} {A : Option Addr} {fs : List Fld} (h : RF w B A fs) {k : Nat} (hk : k < fs.length) :
    ∃ b off dv, A = some ⟨b, off, none⟩ ∧ b < B ∧ DV w B dv fs[k].data ∧ w.cell? ⟨b, off + k * 4, none⟩ = some (.int .i64 fs[k].num) ∧ w.cell? ⟨b, off + k * 4 + 1, none⟩ = some (.int .i64 fs[k].wire) ∧
      w.cell? ⟨b, off + k * 4 + 2, none⟩ = some (.int .u64 (fs[k].x : Int)) ∧ w.cell? ⟨b, off + k * 4 + 3, none⟩ = some dv := by
  obtain ⟨ds, h1, h2, h3⟩ := h
  obtain ⟨ad, hA, hb, hc⟩ := h2.2 (by omega)
  have h0 := hc 0 _ (fcells_get fs ds h1 0 0 (by omega) (by omega) (by omega))
  obtain ⟨b, off, spot⟩ := ad
  have hspot : spot = none := by simpa [Addr.add] using World.cell?_spot h0
  subst hspot
  have hkd : k < ds.length := by omega
  refine ⟨b, off, ds[k], hA, hb, h3 k hk hkd, ?_, ?_, ?_, ?_⟩
  · have := hc (k * 4 + 0) _ (fcells_get fs ds h1 k 0 hk hkd (by omega))
    rw [Addr.add_lit] at this; simpa using this
  · have := hc (k * 4 + 1) _ (fcells_get fs ds h1 k 1 hk hkd (by omega))
    rw [Addr.add_lit] at this; simpa [Nat.add_assoc] using this
  · have := hc (k * 4 + 2) _ (fcells_get fs ds h1 k 2 hk hkd (by omega))
    rw [Addr.add_lit] at this; simpa [Nat.add_assoc] using this
  · have := hc (k * 4 + 3) _ (fcells_get fs ds h1 k 3 hk hkd (by omega))
    rw [Addr.add_lit] at this; simpa [Nat.add_assoc] using this

/-- a row of fields of the call's own, of element type e; what the bytes' slices are: D -/
def OFD (D : Value → List UInt8 → Prop) (w : World) (base : Nat) (e : TypeId) (v : Value) (fs : List Fld) : Prop :=
  ∃ ds : List Value, ds.length = fs.length ∧ w.ownsRow base e 4 v fs.length (fcells fs ds) ∧ ∀ i (h : i < fs.length) (h' : i < ds.length), D ds[i] fs[i].data
/-- its bytes are of the call's own, too, each in a block of its own (made one behind the other) -/
def OF (w : World) (base : Nat) (e : TypeId) (v : Value) (fs : List Fld) : Prop :=
  ∃ ds : List Value, ds.length = fs.length ∧ w.ownsRow base e 4 v fs.length (fcells fs ds) ∧ (∀ i (h : i < fs.length) (h' : i < ds.length), OB w base ds[i] fs[i].data) ∧
    ∀ i j (h : i < ds.length) (h' : j < ds.length), i < j → ∀ a b, ds[i].ownBlock = some a → ds[j].ownBlock = some b → a < b
theorem OF.nil (w : World) (base : Nat) (e : TypeId) : OF w base e (.slice none 0 0) [] := ⟨[], rfl, World.ownsRow_nil w base _ _, ⟨fun _ h => absurd h (Nat.not_lt_zero _), fun _ _ h => absurd h (Nat.not_lt_zero _)⟩⟩
theorem OF.ofd {w : World} {base : Nat} {e : TypeId} {v : Value} {fs : List Fld} (h : OF w base e v fs) : OFD (OB w base) w base e v fs := by
  obtain ⟨ds, h1, h2, h3, -⟩ := h
  exact ⟨ds, h1, h2, h3⟩
/-- its bytes are read, below block B -/
def OFR (B : Nat) (w : World) (base : Nat) (e : TypeId) (v : Value) (fs : List Fld) : Prop := OFD (DV w B) w base e v fs

theorem OFD.nil {D : Value → List UInt8 → Prop} (w : World) (base : Nat) (e : TypeId) : OFD D w base e (.slice none 0 0) [] := ⟨[], rfl, World.ownsRow_nil w base _ _, fun i h => by cases h⟩
theorem OFD.form {D : Value → List UInt8 → Prop} {w : World} {base : Nat} {e : TypeId} {v : Value} {fs : List Fld} (h : OFD D w base e v fs) (hD : ∀ dv l, D dv l → DV w w.heap.size dv l) :
    ∃ A cap, v = .slice A fs.length cap ∧ fs.length ≤ cap ∧ cap ≤ maxLen ∧ RF w w.heap.size A fs := by
  obtain ⟨ds, h1, h2, h3⟩ := h
  have h0 := h2
  rcases h2.2 with ⟨rfl, hn⟩ | ⟨g, cap, cur, rfl, hb, hg, hnc, hcm, hcs, htake⟩
  · exact ⟨none, 0, by rw [hn], by omega, by unfold maxLen; omega, ds, h1, ⟨h2.1, fun h => by omega⟩, fun i h h' => hD _ _ (h3 i h h')⟩
  · exact ⟨_, cap, rfl, hnc, hcm, ds, h1, Reads.of_own h0, fun i h h' => hD _ _ (h3 i h h')⟩
theorem OF.form {w : World} {base : Nat} {e : TypeId} {v : Value} {fs : List Fld} (h : OF w base e v fs) : ∃ A cap, v = .slice A fs.length cap ∧ fs.length ≤ cap ∧ cap ≤ maxLen ∧ RF w w.heap.size A fs := OFD.form h.ofd fun _ _ h => OB.dv h

/-- rows of unlike element types never share a block -/
theorem own_ne {w : World} {base base' : Nat} {e e' : TypeId} {s s' n n' : Nat} {v v' : Value} {xs xs' : List Value} (h : w.ownsRow base e s v n xs) (h' : w.ownsRow base' e' s' v' n' xs') (hne : e ≠ e') : v.ownBlock = none ∨ v.ownBlock ≠ v'.ownBlock := by
  rcases h.2 with ⟨rfl, _⟩ | ⟨g, cap, cur, rfl, _, hg, _⟩
  · exact .inl rfl
  · right
    rcases h'.2 with ⟨rfl, _⟩ | ⟨g', cap', cur', rfl, _, hg', _⟩
    · simp [Value.ownBlock]
    · intro he
      simp only [Value.ownBlock, Option.some.injEq] at he
      subst he
      rw [hg] at hg'
      injection hg' with hg'
      injection hg' with _ ht
      exact hne ht

theorem OB.kept {w w' : World} {base : Nat} {v : Value} {l : List UInt8} {row : Option Nat} (h : OB w base v l) (hg : w.grownBy w' row) (hne : v.ownBlock = none ∨ v.ownBlock ≠ row) : OB w' base v l := World.ownsRow.kept h hg hne
theorem OB.lt {w : World} {base : Nat} {v : Value} {l : List UInt8} (h : OB w base v l) : ∀ k, v.ownBlock = some k → base ≤ k ∧ k < w.heap.size := World.ownsRow.lt h
theorem OB.below {w w' : World} {base B : Nat} {v : Value} {l : List UInt8} (h : OB w base v l) (hb : Below B w w') (hB : w.heap.size ≤ B) : OB w' base v l :=
  h.kept (row := none) ⟨hb.os, hb.tape, hb.output, hb.size, fun k hk _ => hb.block k (by omega)⟩ (by cases v.ownBlock <;> simp)
theorem OB.mono {w : World} {base base' : Nat} {v : Value} {l : List UInt8} (h : OB w base v l) (hb : base' ≤ base) : OB w base' v l := by
  refine ⟨h.1, ?_⟩
  rcases h.2 with h | ⟨g, cap, cur, h1, h2, h3⟩
  · exact .inl h
  · exact .inr ⟨g, cap, cur, h1, by omega, h3⟩
theorem OB.alloc {w : World} {base : Nat} {v : Value} {l : List UInt8} (h : OB w base v l) (o : Obj) : OB (w.alloc o) base v l := World.ownsRow.alloc h o

theorem OB.setLow {w : World} {base : Nat} {v : Value} {l : List UInt8} (h : OB w base v l) {p : Addr} (hp : p.block < base) (u : Value) : OB (w.setCell p u) base v l := ownsRow_setCell_below h hp u

theorem OF.below {w w' : World} {base B : Nat} {e : TypeId} {v : Value} {fs : List Fld} (h : OF w base e v fs) (hb : Below B w w') (hB : w.heap.size ≤ B) : OF w' base e v fs := by
  obtain ⟨ds, h1, h2, h3, h4⟩ := h
  exact ⟨ds, h1, h2.kept (row := none) ⟨hb.os, hb.tape, hb.output, hb.size, fun k hk _ => hb.block k (by omega)⟩ (by cases v.ownBlock <;> simp), fun i h h' => (h3 i h h').below hb hB, h4⟩
theorem OFR.below {w w' : World} {base B B' : Nat} {e : TypeId} {v : Value} {fs : List Fld} (h : OFR B' w base e v fs) (hb : Below B w w') (hB : w.heap.size ≤ B) (hB' : B' ≤ B) : OFR B' w' base e v fs := by
  obtain ⟨ds, h1, h2, h3⟩ := h
  exact ⟨ds, h1, h2.kept (row := none) ⟨hb.os, hb.tape, hb.output, hb.size, fun k hk _ => hb.block k (by omega)⟩ (by cases v.ownBlock <;> simp), fun i h h' => (h3 i h h').below (hb.mono hB')⟩

section
variable {P : Program} {ops : Array Oper} {rest : List Oper} {o : Oper} {a : Act} {Q : Exit → Act → World → Prop} {w : World}
/-- an append of one field, boxed just ahead -/
theorem append_fieldD {D D' : Value → List UInt8 → Prop} (T e : TypeId) (ht : P.underlying T = some (.slice e)) (hinfo : (P.info? e).map (fun i => (i.zero, i.size, i.bytes)) = some (some (.agg #[.int .i64 0, .int .i64 0, .int .u64 0, .slice none 0 0]), 4, 48))
    (hgd : o.guard = none) (s x : Operand)
    (ho : o.op = .call { callee := .builtin .append, args := #[s, x], argTypes := #[T, T] }) {base : Nat} {v : Value} {fs : List Fld} (hown : OFD D w base e v fs) (hs : a.eval s = v)
    {n0 n1 n2 : Int} {dv : Value} {g : Nat} (hx : a.eval x = .slice (some ⟨g, 0, none⟩) 1 1) (hgs : g = w.heap.size) (f : Fld) (hn0 : n0 = f.num) (hn1 : n1 = f.wire) (hn2 : n2 = (f.x : Int)) (hdv : ∃ A n c, dv = .slice A n c)
    (hlen : fs.length + 1 ≤ 2900000000000) (hbase : base ≤ w.heap.size)
    (h : ∀ v' w', (∀ (_ : D' dv f.data) (_ : ∀ dv l, D dv l → D' dv l), OFD D' w' base e v' (fs ++ [f])) → w.grownBy w' v.ownBlock → (v'.ownBlock = v.ownBlock ∨ ∃ g, v'.ownBlock = some g ∧ w.heap.size ≤ g) → wpList P ops Q rest (a.put o.dst v') w') :
    wpList P ops Q (o :: rest) a (w.alloc (.cells #[.int .i64 n0, .int .i64 n1, .int .u64 n2, dv] e)) := by
  obtain ⟨i0, hi0, hz0, hz1, hz2⟩ := info_parts hinfo
  subst hn0 hn1 hn2 hgs
  obtain ⟨ds, h1, h2, h3⟩ := hown
  refine wpList_append_any _ hgd s x T ho base e i0 _ 4 48 ht hi0 hz0 hz1 hz2 rfl (by omega) v fs.length (fcells fs ds) hs (h2.alloc _) (w.heap.size + 1) _ 1 1
    (fcell f dv) hx (Reads.new_ w _ (fcell f dv) 4 1 rfl) ?_ (by unfold maxLen; omega) (fit_small (by omega)) (by simp; omega) ?_
  · intro u hu
    obtain ⟨A, n, c, rfl⟩ := hdv
    simp only [fcell, List.mem_cons, List.not_mem_nil, or_false] at hu
    rcases hu with rfl | rfl | rfl | rfl <;> rfl
  · intro v' w' hown' hg hat
    refine h v' w' (fun hd hDD => ⟨ds ++ [dv], by simp [h1], ?_, ?_⟩) ((World.grownBy_alloc w _ _).trans hg) ?_
    · rw [fcells_snoc f dv fs ds h1, List.length_append]
      exact hown'
    · intro i hi hi'
      by_cases hlt : i < fs.length
      · have := hDD _ _ (h3 i hlt (by omega))
        rwa [List.getElem_append_left hlt, List.getElem_append_left (by omega)]
      · have hie : i = fs.length := by simp at hi; omega
        subst hie
        rw [List.getElem_append_right (by omega), List.getElem_append_right (by omega)]
        simpa [h1] using hd
    · rcases hat with e | e
      · exact .inl e
      · exact .inr ⟨_, e, by simp⟩

/-- the same where all bytes are of the call's own: the new field's behind all the others -/
theorem append_field {w0 : World} (T e : TypeId) (ht : P.underlying T = some (.slice e)) (hinfo : (P.info? e).map (fun i => (i.zero, i.size, i.bytes)) = some (some (.agg #[.int .i64 0, .int .i64 0, .int .u64 0, .slice none 0 0]), 4, 48))
    (he : 5 ≠ e) (hgd : o.guard = none) (s x : Operand)
    (ho : o.op = .call { callee := .builtin .append, args := #[s, x], argTypes := #[T, T] }) {base : Nat} {v : Value} {fs : List Fld} (hown0 : OF w0 base e v fs) (hbw : Below w0.heap.size w0 w) (hs : a.eval s = v)
    {n0 n1 n2 : Int} {dv : Value} {g : Nat} (hx : a.eval x = .slice (some ⟨g, 0, none⟩) 1 1) (hgs : g = w.heap.size) (f : Fld) (hn0 : n0 = f.num) (hn1 : n1 = f.wire) (hn2 : n2 = (f.x : Int)) (hd : OB w w0.heap.size dv f.data)
    (hlen : fs.length + 1 ≤ 2900000000000) (hbase : base ≤ w0.heap.size)
    (h : ∀ v' w', OF w' base e v' (fs ++ [f]) → w.grownBy w' v.ownBlock → (v'.ownBlock = v.ownBlock ∨ ∃ g, v'.ownBlock = some g ∧ w.heap.size ≤ g) → wpList P ops Q rest (a.put o.dst v') w') :
    wpList P ops Q (o :: rest) a (w.alloc (.cells #[.int .i64 n0, .int .i64 n1, .int .u64 n2, dv] e)) := by
  obtain ⟨i0, hi0, hz0, hz1, hz2⟩ := info_parts hinfo
  obtain ⟨ds, h1, e2, e3, h4⟩ := hown0
  have hsz := hbw.size
  have hb0 : w0.grownBy w none := ⟨hbw.os, hbw.tape, hbw.output, hbw.size, fun k hk _ => hbw.block k hk⟩
  have h2 : w.ownsRow base e 4 v fs.length (fcells fs ds) := e2.kept hb0 (by cases v.ownBlock <;> simp)
  have h3 : ∀ i (h : i < fs.length) (h' : i < ds.length), OB w base ds[i] fs[i].data := fun i h h' => (e3 i h h').below hbw (Nat.le_refl _)
  subst hn0 hn1 hn2 hgs
  obtain ⟨A, cap, hdv, -⟩ := hd.form
  refine wpList_append_any _ hgd s x T ho base e i0 _ 4 48 ht hi0 hz0 hz1 hz2 rfl (by omega) v fs.length (fcells fs ds) hs (h2.alloc _) (w.heap.size + 1) _ 1 1
    (fcell f dv) hx (Reads.new_ w _ (fcell f dv) 4 1 rfl) ?_ (by unfold maxLen; omega) (fit_small (by omega)) (by simp; omega) ?_
  · intro u hu
    subst hdv
    simp only [fcell, List.mem_cons, List.not_mem_nil, or_false] at hu
    rcases hu with rfl | rfl | rfl | rfl <;> rfl
  · intro v' w' hown' hg hat
    have hgr := (World.grownBy_alloc w (.cells (fcell f dv).toArray e) v.ownBlock).trans hg
    refine h v' w' ⟨ds ++ [dv], by simp [h1], ?_, ?_, ?_⟩ hgr ?_
    · rw [fcells_snoc f dv fs ds h1, List.length_append]
      exact hown'
    · intro i hi hi'
      have hD : OB w base (ds ++ [dv])[i] (fs ++ [f])[i].data := by
        by_cases hlt : i < fs.length
        · have := h3 i hlt (by omega)
          rwa [List.getElem_append_left hlt, List.getElem_append_left (by omega)]
        · have hie : i = fs.length := by simp at hi; omega
          subst hie
          rw [List.getElem_append_right (by omega), List.getElem_append_right (by omega)]
          simpa [h1] using hd.mono hbase
      exact hD.kept hgr (own_ne hD h2 he)
    · intro i j hi hj hij a b ha hb
      by_cases hjl : j < ds.length
      · rw [List.getElem_append_left (by omega)] at ha
        rw [List.getElem_append_left hjl] at hb
        exact h4 i j (by omega) hjl hij a b ha hb
      · have hje : j = ds.length := by simp at hj; omega
        subst hje
        rw [List.getElem_append_left (by omega)] at ha
        rw [List.getElem_append_right (by omega)] at hb
        have h5 := ((e3 i (by omega) (by omega)).lt a ha).2
        have h6 := (hd.lt b (by simpa using hb)).1
        omega
    · rcases hat with e | e
      · exact .inl e
      · exact .inr ⟨_, e, by simp⟩
end
theorem grown_belowF {D : Value → List UInt8 → Prop} {w w' : World} {e : TypeId} {v : Value} {base : Nat} {fs : List Fld} (hown : OFD D w base e v fs) (hg : w.grownBy w' v.ownBlock) (hbase : base ≤ w.heap.size) {a : World} {B : Nat} (hB : B ≤ base) (hb : Below B a w) : Below B a w' :=
  hb.grown hg (by omega) (fun k hk => by obtain ⟨ds, h1, h2, h3⟩ := hown; have := (World.ownsRow.lt h2 k hk).1; omega)

theorem info_f : (Tryz.prog.info? 108).map (fun i => (i.zero, i.size, i.bytes)) = some (some (.agg #[.int .i64 0, .int .i64 0, .int .u64 0, .slice none 0 0]), 4, 48) := by kernel_rfl
end Go.Proofs.YtlhpmlknmgocoaaGreat
