/- How a []Field that came in is opened. (The first theorem: section 1 of the guide's page on structs, offered for copying.) -/
import Derived.Test.YthhanpfcnaokpaaOpen
import Derived.Deep.Slices
import Derived.Deep.Fields
import Derived.ChangeSame
import Derived.Lib.SmallJoins
namespace Go.Proofs.Ythhanpfcnaokpaa
open Go.ChangeShapes Go.WideShapes Go.ChangeAt Go.RowKit Go.Deep

section
variable {H : Type} {enc : TypeId × Value → H} {P : Program} {w : World} {base : Nat} {spare : Nat → Bool} {held : Bool}
theorem open_slice_fields {t e : TypeId} {fs : Array Field} {fuel : Nat} {cs : List Value} {x : DataW H × List MemPlace} (ht : P.underlying t = some (.slice e)) (he : P.underlying e = some (.struct fs))
    (hone : oneCellFields P fs = true) (hC : P.cellsOf e = fs.size) (h : DataW.trod enc P w base spare held fuel t cs = some x) :
    (cs = [.slice none 0 0] ∧ x = (.nil, [])) ∨
    ∃ (a : Addr) (len cap m : Nat) (D : Nat → DataW H) (Pl : Nat → List MemPlace), cs = [.slice (some a) len cap] ∧ base ≤ a.block ∧ len ≤ cap ∧ cap ≤ maxLen ∧ m = (if spare a.block then cap else len) ∧
      x = (.slice ((List.range len).map D) ((List.range (m - len)).map fun j => D (len + j)), MemPlace.row a (m * fs.size) ++ (List.range m).flatMap Pl) ∧
      ∀ i, i < m → ∃ (ys : List (DataW H × List MemPlace)) (n : Nat), D i = .agg (ys.map (·.1)) ∧ Pl i = ys.flatMap (·.2) ∧ ys.length = fs.size ∧
        ∀ (j : Nat) (f : Field), fs[j]? = some f → ∃ (v : Value) (y : DataW H × List MemPlace), w.cell? (a.add (i * fs.size + j)) = some v ∧ ys[j]? = some y ∧ DataW.trod enc P w base spare held n f.type [v] = some y := by
  rcases open_slice ht h with h0 | ⟨a, len, cap, m, n, D, Pl, hcs, hb, hl, hm, hmm, hx, hi⟩
  · exact .inl h0
  · refine .inr ⟨a, len, cap, m, D, Pl, hcs, hb, hl, hm, hmm, by rw [hC] at hx; exact hx, fun i him => ?_⟩
    obtain ⟨cs', hc, ht'⟩ := hi i him
    rw [hC] at hc
    obtain ⟨ys, n', hn', hy, hlen, hyl, hf⟩ := DataW.trod_struct he ht'
    obtain ⟨_, hcl, hat⟩ := World.cells?_some hc
    simp only [Prod.mk.injEq] at hy
    refine ⟨ys, n', hy.1, hy.2, hyl, fun j f hj => ?_⟩
    obtain ⟨ho, hk⟩ := hone_of hone j f hj
    have hjl : j < fs.size := (Array.getElem?_eq_some_iff.1 hj).1
    have hcell := hat j hjl
    have hv : cs'[j]? = some (cs'[j]'(by omega)) := List.getElem?_eq_getElem (by omega)
    have h1 := hf j f hj
    rw [ho, hk] at h1
    have hone' : (cs'.drop j).take 1 = [cs'[j]'(by omega)] := by
      rw [List.drop_eq_getElem_cons (by omega)]
      rfl
    rw [hone'] at h1
    have hys : ys[j]? = some (ys[j]'(by omega)) := List.getElem?_eq_getElem (by omega)
    refine ⟨_, _, ?_, hys, h1.trans hys⟩
    rw [← Go.Deep.add_add, hcell, hv]
end

theorem exists_list {α : Type} {P : Nat → α → Prop} : ∀ (n : Nat), (∀ i, i < n → ∃ a, P i a) → ∃ l : List α, l.length = n ∧ ∀ i (h : i < l.length), P i l[i]
  | 0, _ => ⟨[], rfl, fun _ h => by cases h⟩
  | n + 1, h => by
    obtain ⟨l, h1, h2⟩ := exists_list n (fun i hi => h i (by omega))
    obtain ⟨a, ha⟩ := h n (by omega)
    refine ⟨l ++ [a], by simp [h1], fun i hi => ?_⟩
    by_cases hlt : i < l.length
    · rw [List.getElem_append_left hlt]; exact h2 i hlt
    · have : i = n := by simp at hi; omega
      subst this
      rw [List.getElem_append_right (by omega)]
      simpa [h1] using ha

theorem mem_weightsAll {H : Type} {P : Program} {e : TypeId} {d : DataW H} {n : Nat} : ∀ {l : List (DataW H)}, d ∈ l → n ∈ d.weights P e → n ∈ DataW.weightsAll P e l
  | a :: l, h, hn => by
    unfold DataW.weightsAll
    rcases List.mem_cons.1 h with rfl | h
    · exact List.mem_append_left _ hn
    · exact List.mem_append_right _ (mem_weightsAll h hn)

/-- how much fields weigh -/
def bulkF : List Fld → Nat
  | [] => 0
  | f :: fs => f.data.length + 1 + bulkF fs
theorem bulkAll_ge {H : Type} : ∀ (l : List (DataW H)), l.length ≤ Rows.uptoBulkAll l
  | [] => Nat.zero_le _
  | d :: l => by
    have := bulkAll_ge l
    have h1 : 1 ≤ Rows.uptoBulk d := by
      cases d with
      | lit x => cases x <;> simp [Rows.uptoBulk]
      | _ => simp [Rows.uptoBulk]
    simp only [Rows.uptoBulkAll, List.length_cons]; omega
theorem bytes_f : Try.prog.bytesOf 40 = 48 := by kernel_rfl
theorem cells_f : Try.prog.cellsOf 40 = 4 := by kernel_rfl
theorem one_f : oneCellFields Try.prog #[{ name := "Num", type := 3, offset := 0, embedded := false, tag := "", pkgPath := "", byteOffset := 0 }, { name := "Wire", type := 3, offset := 1, embedded := false, tag := "", pkgPath := "", byteOffset := 8 }, { name := "X", type := 23, offset := 2, embedded := false, tag := "", pkgPath := "", byteOffset := 16 }, { name := "Data", type := 24, offset := 3, embedded := false, tag := "", pkgPath := "", byteOffset := 24 }] = true := by kernel_rfl

section
variable {H : Type} {enc : TypeId × Value → H} {W : World} {base0 base : Nat} {spare : Nat → Bool} {held : Bool}
/-- bytes down in a datum -/
theorem open_bytes_in {fuel : Nat} {v : Value} {y : DataW H × List MemPlace} (h : DataW.trod enc Try.prog W base spare held fuel 24 [v] = some y) (hw : ∀ n ∈ y.1.weights Try.prog 24, n ≤ reachBytes) (hs : ∀ b, spare b = true) :
    ∃ l, DV W W.heap.size v l ∧ l.length ≤ 140737488351232 ∧ l.length + 1 ≤ Rows.uptoBulk y.1 := by
  rcases open_ints Try.underlying24 Try.underlying5 cells_u8 h with ⟨hcs, hx⟩ | ⟨x, l, c, zs, hcs, _, hl, hm, hz, hx, hcell, hwz⟩
  · simp only [List.cons.injEq, and_true] at hcs
    subst hcs
    have h1 : 1 ≤ Rows.uptoBulk y.1 := by rw [hx]; simp [Rows.uptoBulk]
    exact ⟨[], ⟨none, 0, rfl, Nat.le_refl _, by unfold maxLen; omega, RB.nil _ _ _⟩, by simp, by simpa using h1⟩
  · simp only [List.cons.injEq, and_true] at hcs
    subst hcs
    rw [hs x.block, if_pos rfl] at hz
    have hy : y.1 = .slice (lits .u8 (zs.take l)) (lits .u8 (zs.drop l)) := by rw [hx]
    have hlen : (lits (H := H) .u8 (zs.take l)).length + (lits (H := H) .u8 (zs.drop l)).length = c := by
      simp [lits]; omega
    have hsz := hw c (by
      rw [hy, ← hlen]
      simp [DataW.weights, Try.underlying24, bytes_u8])
    have hll : ((zs.take l).map fun z => UInt8.ofNat z.toNat).length = l := by simp; omega
    refine ⟨(zs.take l).map fun z => UInt8.ofNat z.toNat, ⟨some x, c, by rw [hll], by rw [hll]; exact hl, hm, ?_⟩, by rw [hll]; have : reachBytes = 140737488351232 := rfl; omega, ?_⟩
    · refine ⟨by rw [byt_len]; omega, fun hn => ⟨x, rfl, ?_, ?_⟩⟩
      · have h0 := hcell 0 (by rw [hll] at hn; omega)
        have := World.block_lt_of_cell? W _ h0
        rwa [block_of_add] at this
      · intro j u hu
        have hj : j < ((zs.take l).map fun z => UInt8.ofNat z.toNat).length := by
          have := (List.getElem?_eq_some_iff.1 hu).1
          rwa [byt_len] at this
        rw [byt_get _ j hj] at hu
        obtain rfl := Option.some.inj hu
        rw [hll] at hj
        have hjz : j < zs.length := by omega
        rw [hcell j hjz]
        have hb := bounds_u8 (hwz zs[j] (List.getElem_mem _))
        simp only [List.getElem_map, List.getElem_take, List.getD_eq_getElem?_getD, List.getElem?_eq_getElem hjz, Option.getD_some]
        congr 2
        simp only [UInt8.toNat_ofNat']
        omega
    · rw [hy, hll]
      have h1 := bulkAll_ge (lits (H := H) .u8 (zs.take l))
      have h2 : (lits (H := H) .u8 (zs.take l)).length = l := by simp [lits]; omega
      simp only [Rows.uptoBulk]; omega

theorem u64_nat {n : Int} (h : (Lit.int .u64 n).wf = true) : ∃ x : Nat, n = x ∧ x < 18446744073709551616 := by
  have hb := bounds_u64 h
  obtain ⟨x, rfl⟩ := Int.eq_ofNat_of_zero_le hb.1
  exact ⟨x, rfl, by omega⟩

/-- a []Field that came in -/
theorem open_fields {r : Reach} {v : Value} {d : DataW H} {p : List MemPlace} (hv : Value.okWide Try.prog W r base0 32 v) (h : DataW.Trod enc Try.prog W base spare held 32 v d p)
    (hw : ∀ n ∈ d.weights Try.prog 32, n ≤ reachBytes) (hs : ∀ b, spare b = true) :
    ∃ A cap fs, v = .slice A fs.length cap ∧ fs.length ≤ cap ∧ cap ≤ 2932031007400 ∧ RF W W.heap.size A fs ∧ Wf64 fs ∧ bulkF fs + 1 ≤ Rows.uptoBulk d := by
  obtain ⟨a0, len, cap, rfl⟩ := okWide_slice Try.underlying32 hv
  obtain ⟨fuel, hf⟩ := h
  rcases open_slice_fields Try.underlying32 Try.underlying40 one_f cells_f hf with ⟨hcs, hx⟩ | ⟨a, l, c, m, D, Pl, hcs, hb, hl, hm, hmm, hx, hi⟩
  · simp [Value.cells] at hcs
    obtain ⟨rfl, rfl, rfl⟩ := hcs
    simp only [Prod.mk.injEq] at hx
    refine ⟨none, 0, [], rfl, Nat.le_refl _, by omega, ⟨[], rfl, ⟨rfl, fun h => by cases h⟩, fun i h => by cases h⟩, fun f hf => by simp at hf, ?_⟩
    rw [hx.1]; simp [Rows.uptoBulk, bulkF]
  · simp [Value.cells] at hcs
    obtain ⟨rfl, rfl, rfl⟩ := hcs
    rw [hs a.block, if_pos rfl] at hmm
    have hmm' := hmm.symm
    subst hmm'
    simp only [Prod.mk.injEq] at hx
    have hd := hx.1
    have hsz := hw (cap * 48) (by
      rw [hd]
      simp only [DataW.weights, Try.underlying32, bytes_f, List.length_map, List.length_range]
      rw [show len + (cap - len) = cap by omega]
      exact List.mem_cons_self)
    have hrb : reachBytes = 140737488351232 := rfl
    have hel : ∀ i, i < len → ∃ q : Fld × Value, (W.cell? (a.add (i * 4 + 0)) = some (.int .i64 q.1.num) ∧ W.cell? (a.add (i * 4 + 1)) = some (.int .i64 q.1.wire) ∧ W.cell? (a.add (i * 4 + 2)) = some (.int .u64 (q.1.x : Int)) ∧ W.cell? (a.add (i * 4 + 3)) = some q.2) ∧
        DV W W.heap.size q.2 q.1.data ∧ q.1.x < 18446744073709551616 ∧ q.1.data.length ≤ 140737488351232 ∧ q.1.data.length + 1 ≤ Rows.uptoBulk (D i) := by
      intro i hil
      obtain ⟨ys, n, hD, hPl, hyl, hff⟩ := hi i (by omega)
      obtain ⟨v0, y0, c0, e0, t0⟩ := hff 0 _ rfl
      obtain ⟨v1, y1, c1, e1, t1⟩ := hff 1 _ rfl
      obtain ⟨v2, y2, c2, e2, t2⟩ := hff 2 _ rfl
      obtain ⟨v3, y3, c3, e3, t3⟩ := hff 3 _ rfl
      obtain ⟨n0, g0, -, -⟩ := DataW.trod_int Try.underlying3 t0
      obtain ⟨n1, g1, -, -⟩ := DataW.trod_int Try.underlying3 t1
      obtain ⟨n2, g2, -, w2⟩ := DataW.trod_int Try.underlying23 t2
      simp only [List.cons.injEq, and_true] at g0 g1 g2
      subst g0 g1 g2
      obtain ⟨x, rfl, hx64⟩ := u64_nat w2
      have hDmem : D i ∈ (List.range len).map D := List.mem_map.2 ⟨i, List.mem_range.2 hil, rfl⟩
      match ys, hyl, hD, e0, e1, e2, e3 with
      | [z0, z1, z2, z3], _, hD, e0, e1, e2, e3 =>
        simp only [List.getElem?_cons_zero, List.getElem?_cons_succ, Option.some.injEq] at e0 e1 e2 e3
        subst e0 e1 e2 e3
        have hwt : ∀ k ∈ z3.1.weights Try.prog 24, k ≤ reachBytes := by
          intro k hk
          refine hw k ?_
          rw [hd]
          simp only [DataW.weights, Try.underlying32]
          refine List.mem_cons_of_mem _ (List.mem_append_left _ (mem_weightsAll hDmem ?_))
          rw [hD]
          simp only [DataW.weights, Try.underlying40]
          show k ∈ DataW.weightsEach Try.prog [3, 3, 23, 24] [z0.1, z1.1, z2.1, z3.1]
          simp [DataW.weightsEach, hk]
        obtain ⟨ld, hdv, hll, hbk⟩ := open_bytes_in t3 hwt hs
        refine ⟨(⟨n0, n1, x, ld⟩, v3), ⟨c0, c1, c2, c3⟩, hdv, hx64, hll, ?_⟩
        rw [hD]
        show _ ≤ Rows.uptoBulk (.agg [z0.1, z1.1, z2.1, z3.1])
        simp only [Rows.uptoBulk, Rows.uptoBulkAll]; omega
    obtain ⟨qs, hql, hq⟩ := exists_list len hel
    have hlen : (qs.map (·.1)).length = len := by simp [hql]
    refine ⟨some a, cap, qs.map (·.1), by rw [hlen], by rw [hlen]; exact hl, by omega, ⟨qs.map (·.2), by simp, ⟨by rw [fcells_len _ _ (by simp)], fun hn => ⟨a, rfl, ?_, ?_⟩⟩, ?_⟩, ?_, ?_⟩
    · have h0 := (hq 0 (by rw [hlen] at hn; omega)).1.1
      have := World.block_lt_of_cell? W _ h0
      rwa [block_of_add] at this
    · intro j u hu
      have hj : j < len * 4 := by
        have := (List.getElem?_eq_some_iff.1 hu).1
        rwa [fcells_len _ _ (by simp), hlen] at this
      have hjq : j / 4 < qs.length := by omega
      have h5 := fcells_get (qs.map (·.1)) (qs.map (·.2)) (by simp) (j / 4) (j % 4) (by simpa using hjq) (by simpa using hjq) (by omega)
      rw [show j / 4 * 4 + j % 4 = j by omega, hu] at h5
      simp only [List.getElem_map] at h5
      obtain ⟨c0, c1, c2, c3⟩ := (hq (j / 4) hjq).1
      have hj4 : j = j / 4 * 4 + j % 4 := by omega
      rw [hj4]
      rcases (by omega : j % 4 = 0 ∨ j % 4 = 1 ∨ j % 4 = 2 ∨ j % 4 = 3) with e | e | e | e
      · rw [e] at h5 ⊢; rw [c0]; simpa [fcell] using h5.symm
      · rw [e] at h5 ⊢; rw [c1]; simpa [fcell] using h5.symm
      · rw [e] at h5 ⊢; rw [c2]; simpa [fcell] using h5.symm
      · rw [e] at h5 ⊢; rw [c3]; simpa [fcell] using h5.symm
    · intro i h h'
      simp only [List.getElem_map]
      exact (hq i (by simpa using h)).2.1
    · intro f hf
      obtain ⟨q, hq', rfl⟩ := List.mem_map.1 hf
      obtain ⟨i, hi', rfl⟩ := List.getElem_of_mem hq'
      exact ⟨(hq i hi').2.2.1, (hq i hi').2.2.2.1⟩
    · rw [hd]
      have hb1 : ∀ (qs : List (Fld × Value)) (k : Nat), (∀ i (h : i < qs.length), qs[i].1.data.length + 1 ≤ Rows.uptoBulk (D (k + i))) → bulkF (qs.map (·.1)) ≤ Rows.uptoBulkAll ((List.range' k qs.length).map D) := by
        intro qs
        induction qs with
        | nil => intro k _; simp [bulkF]
        | cons q qs ih =>
          intro k hk
          have h1 := hk 0 (by simp)
          have h2 := ih (k + 1) (fun i h => by
            have := hk (i + 1) (by simpa using h)
            simp only [List.getElem_cons_succ] at this
            rwa [show k + 1 + i = k + (i + 1) by omega])
          simp only [List.map_cons, bulkF, List.length_cons, List.range'_succ, Rows.uptoBulkAll]
          simp only [List.getElem_cons_zero, Nat.add_zero] at h1
          omega
      have h3 := hb1 qs 0 (fun i h => by rw [Nat.zero_add]; exact (hq i h).2.2.2.2)
      rw [hql, ← List.range_eq_range'] at h3
      simp only [Rows.uptoBulk]; omega
end
end Go.Proofs.Ythhanpfcnaokpaa
