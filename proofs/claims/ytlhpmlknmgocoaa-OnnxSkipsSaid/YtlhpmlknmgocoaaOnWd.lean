/- Other files of the same model: fields beside, a message in two fields, fields that change places. No program in sight. -/
import Derived.Test.YtlhpmlknmgocoaaMW
namespace Go.Proofs.Ytlhpmlknmgocoaa
set_option linter.unusedSimpArgs false
set_option linter.unusedVariables false
open Go.RowKit

/-- what a file's graph is, and whether it is there -/
def prt (b : List UInt8) : List UInt8 × Bool :=
  if (readE b).2 = 0 then ((jn (sel 7 (readE b).1)).getD [], jnb (sel 7 (readE b).1) && decide (jne (sel 7 (readE b).1) = 0)) else ([], false)
def msg (num : Int) (b : List UInt8) : List UInt8 := (writeE [dF num b]).1
theorem wr_cons (f : Fld) (fs : List Fld) : wr (f :: fs) = wr [f] ++ wr fs := by simp [wr]
theorem wr2 (a b : Fld) : wr [a, b] = wr [a] ++ wr [b] := by simp [wr]
theorem wr4 (a b c d : Fld) : wr [a, b, c, d] = ((wr [a] ++ wr [b]) ++ wr [c]) ++ wr [d] := by simp [wr]
theorem msg_wr {num : Int} (h : 1 ≤ num) (h' : num ≤ 536870911) {b : List UInt8} (hb : b.length ≤ 4194000) : msg num b = wr [dF num b] ∧ (wr [dF num b]).length ≤ b.length + 20 := by
  have h1 := wrF_d_len num b
  have h2 : (wr [dF num b]).length ≤ b.length + 20 := by rw [wr_one]; omega
  exact ⟨by unfold msg; rw [wr_ok (WrA.d h h' b) (by omega)], h2⟩
theorem prt_nil : prt [] = ([], false) := by decide
theorem read_of {fs : List Fld} {b : List UInt8} (h : WrA fs) (hb : writeE fs = (b, 0)) : readE b = (fs, 0) := by
  have h1 := dFields_of h hb
  have hw : wr fs = b := by
    unfold writeE at hb
    rw [if_pos (List.all_eq_true.2 fun f hf => (h f hf).1)] at hb
    split at hb
    · simp at hb
    · simp at hb; exact hb
  have hl := write_short hb
  have h3 := wr_bulk fs fun f hf => (h f hf).1
  exact read_write (fs := fs) (fun f hf => ⟨(h f hf).2, by have := data_len hf; rw [hw] at h3; omega⟩) hb
theorem prt_enc {m : Mo} {b : List UInt8} (h : encM m = (b, 0)) : prt b = (wr (graF m), true) := by
  obtain ⟨-, -, -, h4⟩ := enc_ok h
  have hr := read_of (top_ok _ _) h4
  have hs : sel 7 [vF 1 8, dF 7 (wr (graF m)), dF 8 [16, 17]] = [dF 7 (wr (graF m))] := by simp [sel, vF, dF]
  unfold prt
  rw [hr]
  dsimp only
  rw [if_pos rfl, hs]
  simp [jn, jnb, jne, dF]
/-- the model's fields, however they lie: a field of a number that is not named -/
structure Odd (f : Fld) : Prop where
  num : 100 ≤ f.num
  wr1 : WrA [f]
  len : (wr [f]).length ≤ 60
theorem Odd.sel {f : Fld} (h : Odd f) {num : Int} (hn : num < 100) : sel num [f] = [] := by
  have := h.num
  simp [Proofs.Ytlhpmlknmgocoaa.sel]; omega
theorem gra_len {m : Mo} {b : List UInt8} (h : encM m = (b, 0)) : (wr (graF m)).length ≤ b.length := by
  obtain ⟨-, -, -, h4⟩ := enc_ok h
  have hw : wr [vF 1 8, dF 7 (wr (graF m)), dF 8 [16, 17]] = b := by
    unfold writeE at h4
    rw [if_pos (List.all_eq_true.2 fun f hf => (top_ok _ _ f hf).1)] at h4
    split at h4
    · simp at h4
    · simp at h4; exact h4
  have h5 := wr_bulk _ fun f hf => (top_ok (wr (graF m)) [16, 17] f hf).1
  rw [hw] at h5
  simp only [bulkF, dF, vF] at h5
  omega
theorem own_odd {f : Fld} (h : Odd f) : dOwn ([16, 17] ++ wr [f]) = ((true, 17), fl0) := by
  have e : [16, 17] ++ wr [f] = wr [vF 2 17, f] := by rw [wr2]; rfl
  have hw : WrA [vF 2 17, f] := (WrA.v (num := 2) (by decide) (by decide) (by decide)).app h.wr1
  have hd := dFields_wr hw (by rw [wr2, List.length_append]; have := h.len; have : (wr [vF 2 17]).length = 2 := rfl; omega)
  rw [e]
  have s1 : sel 1 [vF 2 17, f] = [] := by
    have : [vF 2 17, f] = [vF 2 17] ++ [f] := rfl
    rw [this, sel_app, h.sel (by decide), sel_v]; rfl
  have s2 : sel 2 [vF 2 17, f] = [vF 2 17] := by
    have : [vF 2 17, f] = [vF 2 17] ++ [f] := rfl
    rw [this, sel_app, h.sel (by decide), sel_v]; rfl
  unfold dOwn
  rw [hd]
  dsimp only
  rw [dText_none s1, dNum_one s2]
  have : i64 17 = 17 := by decide
  dsimp only
  rw [this]
  rfl
theorem skip_back {m : Mo} {b : List UInt8} {f : Fld} (h : encM m = (b, 0)) (hb : b.length ≤ 2000000) (hf : Odd f) :
    decM (((wr [f] ++ msg 7 (wr [f] ++ wr (graF m) ++ wr [f])) ++ wr [f]) ++ msg 8 ([16, 17] ++ wr [f])) = (m, 0) := by
  obtain ⟨h1, h2, h3, h4⟩ := enc_ok h
  have hg := gra_len h
  have hfl := hf.len
  obtain ⟨e7, l7⟩ := msg_wr (num := 7) (by decide) (by decide) (b := wr [f] ++ wr (graF m) ++ wr [f]) (by simp only [List.length_append]; omega)
  obtain ⟨e8, l8⟩ := msg_wr (num := 8) (by decide) (by decide) (b := [16, 17] ++ wr [f]) (by simp only [List.length_append, List.length_cons, List.length_nil]; omega)
  simp only [List.length_append, List.length_cons, List.length_nil] at l7 l8
  have ec : (((wr [f] ++ msg 7 (wr [f] ++ wr (graF m) ++ wr [f])) ++ wr [f]) ++ msg 8 ([16, 17] ++ wr [f])) = wr [f, dF 7 (wr [f] ++ wr (graF m) ++ wr [f]), f, dF 8 ([16, 17] ++ wr [f])] := by
    rw [e7, e8, wr4]
  have hlen : (wr [f, dF 7 (wr [f] ++ wr (graF m) ++ wr [f]), f, dF 8 ([16, 17] ++ wr [f])]).length ≤ 4194304 := by
    rw [wr4]
    simp only [List.length_append]; omega
  have hw : WrA [f, dF 7 (wr [f] ++ wr (graF m) ++ wr [f]), f, dF 8 ([16, 17] ++ wr [f])] := ((hf.wr1.app (.d (num := 7) (by decide) (by decide) _)).app hf.wr1).app (.d (num := 8) (by decide) (by decide) _)
  have hsl : ∀ num : Int, num < 100 → sel num [f, dF 7 (wr [f] ++ wr (graF m) ++ wr [f]), f, dF 8 ([16, 17] ++ wr [f])] = sel num [dF 7 (wr [f] ++ wr (graF m) ++ wr [f])] ++ sel num [dF 8 ([16, 17] ++ wr [f])] := by
    intro num hn
    have : [f, dF 7 (wr [f] ++ wr (graF m) ++ wr [f]), f, dF 8 ([16, 17] ++ wr [f])] = (([f] ++ [dF 7 (wr [f] ++ wr (graF m) ++ wr [f])]) ++ [f]) ++ [dF 8 ([16, 17] ++ wr [f])] := rfl
    rw [this, sel_app, sel_app, sel_app, hf.sel hn]
    simp
  have eg : wr [f] ++ wr (graF m) ++ wr [f] = wr ([f] ++ graF m ++ [f]) := by rw [wr_app, wr_app]
  rw [ec]
  refine back_of (l := [f, dF 7 (wr [f] ++ wr (graF m) ++ wr [f]), f, dF 8 ([16, 17] ++ wr [f])]) (g := wr [f] ++ wr (graF m) ++ wr [f]) (lg := [f] ++ graF m ++ [f]) h1 hlen (dFields_wr hw hlen) ?_ ?_ ?_ ?_ ?_
  · rw [dNum_none (by rw [hsl 1 (by decide)]; simp [sel_d])]
  · exact dMsg_one (k := 7) (by rw [hsl 7 (by decide)]; simp [sel_d])
  · rw [eg]
    exact dFields_wr ((hf.wr1.app (graF_ok m)).app hf.wr1) (by rw [← eg]; simp only [List.length_append]; omega)
  · intro num hn
    have hn2 : num < 100 := by omega
    rw [sel_app, sel_app, hf.sel hn2]
    simp
  · unfold dFits
    have := dList_map (read := dOwn) (l := [f, dF 7 (wr [f] ++ wr (graF m) ++ wr [f]), f, dF 8 ([16, 17] ++ wr [f])]) (num := 8) (k := 8) (most := [f, dF 7 (wr [f] ++ wr (graF m) ++ wr [f]), f, dF 8 ([16, 17] ++ wr [f])].length) (xs := [()]) (g := fun _ => [16, 17] ++ wr [f]) (r := fun _ => (true, 17))
      (by rw [hsl 8 (by decide)]; simp [sel_d]) (fun _ _ => own_odd hf) (by simp)
    rw [this]
    rfl
theorem own_x : dOwn [10, 1, 120, 16, 3] = ((false, 3), fl0) := by
  have hb : writeE [dF 1 [120], vF 2 3] = ([10, 1, 120, 16, 3], 0) := by decide
  have hd := dFields_of ((WrA.d (num := 1) (by decide) (by decide) [120]).app (.v (num := 2) (by decide) (by decide) (by decide))) hb
  unfold dOwn
  rw [hd]
  dsimp only [List.cons_append, List.nil_append]
  rw [dText_one (k := 1) (s := [120]) (by simp [sel, dF, vF]) (by simp), dNum_one (k := 2) (x := 3) (by simp [sel, dF, vF])]
  have : i64 3 = 3 := by decide
  dsimp only
  rw [this]
  rfl
theorem split_back {m : Mo} {b : List UInt8} (h : encM m = (b, 0)) (hb : b.length ≤ 2000000) (k : Nat) :
    decM (((msg 8 [16, 17] ++ msg 7 (wr ((graF m).take k))) ++ msg 8 [10, 1, 120, 16, 3]) ++ msg 7 (wr ((graF m).drop k))) = (m, 0) := by
  obtain ⟨h1, h2, h3, h4⟩ := enc_ok h
  have hg := gra_len h
  have hj : wr ((graF m).take k) ++ wr ((graF m).drop k) = wr (graF m) := by rw [← wr_app, List.take_append_drop]
  have hjl : (wr ((graF m).take k)).length + (wr ((graF m).drop k)).length = (wr (graF m)).length := by rw [← hj, List.length_append]
  generalize wr ((graF m).take k) = one at *
  generalize wr ((graF m).drop k) = two at *
  obtain ⟨e1, l1⟩ := msg_wr (num := 8) (by decide) (by decide) (b := [16, 17]) (by simp)
  obtain ⟨e2, l2⟩ := msg_wr (num := 7) (by decide) (by decide) (b := one) (by omega)
  obtain ⟨e3, l3⟩ := msg_wr (num := 8) (by decide) (by decide) (b := [10, 1, 120, 16, 3]) (by simp)
  obtain ⟨e4, l4⟩ := msg_wr (num := 7) (by decide) (by decide) (b := two) (by omega)
  simp only [List.length_cons, List.length_nil] at l1 l3
  have ec : (((msg 8 [16, 17] ++ msg 7 one) ++ msg 8 [10, 1, 120, 16, 3]) ++ msg 7 two) = wr [dF 8 [16, 17], dF 7 one, dF 8 [10, 1, 120, 16, 3], dF 7 two] := by
    rw [e1, e2, e3, e4, wr4]
  have hlen : (wr [dF 8 [16, 17], dF 7 one, dF 8 [10, 1, 120, 16, 3], dF 7 two]).length ≤ 4194304 := by
    rw [wr4]
    simp only [List.length_append]; omega
  have hw : WrA [dF 8 [16, 17], dF 7 one, dF 8 [10, 1, 120, 16, 3], dF 7 two] := (((WrA.d (num := 8) (by decide) (by decide) _).app (.d (num := 7) (by decide) (by decide) _)).app (.d (num := 8) (by decide) (by decide) _)).app (.d (num := 7) (by decide) (by decide) _)
  have s7 : sel 7 [dF 8 [16, 17], dF 7 one, dF 8 [10, 1, 120, 16, 3], dF 7 two] = [dF 7 one, dF 7 two] := by simp [sel, dF]
  have s8 : sel 8 [dF 8 [16, 17], dF 7 one, dF 8 [10, 1, 120, 16, 3], dF 7 two] = [dF 8 [16, 17], dF 8 [10, 1, 120, 16, 3]] := by simp [sel, dF]
  rw [ec]
  refine back_of (l := [dF 8 [16, 17], dF 7 one, dF 8 [10, 1, 120, 16, 3], dF 7 two]) (g := wr (graF m)) (lg := graF m) h1 hlen (dFields_wr hw hlen) ?_ ?_ (dFields_of (graF_ok m) h3) (fun _ _ => rfl) ?_
  · rw [dNum_none (by simp [sel, dF])]
  · unfold dMsg jnb jne
    rw [s7]
    simp [jn, dF, flb, fl0, hj]
  · unfold dFits
    have := dList_map1 (read := dOwn) (l := [dF 8 [16, 17], dF 7 one, dF 8 [10, 1, 120, 16, 3], dF 7 two]) (num := 8) (k := 8) (most := [dF 8 [16, 17], dF 7 one, dF 8 [10, 1, 120, 16, 3], dF 7 two].length) (xs := [[16, 17], [10, 1, 120, 16, 3]]) (r := fun x => (dOwn x).1)
      s8 (fun a ha => by
        simp only [List.mem_cons, List.mem_nil_iff, or_false] at ha
        rcases ha with rfl | rfl
        · rw [own_set]
        · rw [own_x]) (by simp)
    rw [this]
    simp only [List.map_cons, List.map_nil, own_set, own_x]
    rfl
/-- the fields by number, the greatest first -/
def turned (l : List Fld) : List Fld := sel 12 l ++ sel 11 l ++ sel 5 l ++ sel 2 l ++ sel 1 l
theorem turned_len : ∀ l : List Fld, (wr (turned l)).length ≤ (wr l).length
  | [] => by simp [turned, sel, wr]
  | f :: l => by
    have h := turned_len l
    simp only [turned, wr_app, List.length_append] at h ⊢
    have hc : ∀ k : Int, (wr (sel k (f :: l))).length = (if f.num = k then (wrF f).length else 0) + (wr (sel k l)).length := by
      intro k
      by_cases hk : f.num = k
      · have : sel k (f :: l) = f :: sel k l := by simp [sel, hk]
        rw [this, wr_cons, List.length_append, wr_one, if_pos hk]
      · have : sel k (f :: l) = sel k l := by simp [sel, hk]
        rw [this, if_neg hk]; omega
    rw [wr_cons f l, List.length_append, wr_one, hc 12, hc 11, hc 5, hc 2, hc 1]
    by_cases h12 : f.num = 12
    · simp [h12]; omega
    by_cases h11 : f.num = 11
    · simp [h11]; omega
    by_cases h5 : f.num = 5
    · simp [h5]; omega
    by_cases h2 : f.num = 2
    · simp [h2]; omega
    by_cases h1 : f.num = 1
    · simp [h1]; omega
    simp [h12, h11, h5, h2, h1]; omega
theorem sel_sel (num k : Int) (l : List Fld) : sel num (sel k l) = if num = k then sel k l else [] := by
  unfold sel
  rw [List.filter_filter]
  by_cases h : num = k
  · subst h
    rw [if_pos rfl]
    congr 1
    funext f
    simp
  · rw [if_neg h, List.filter_eq_nil_iff]
    intro f _
    simp
    omega
theorem turned_ok (m : Mo) : WrA (turned (graF m)) := fun f hf => by
  unfold turned at hf
  have hm : f ∈ graF m := by
    simp only [List.mem_append, sel, List.mem_filter] at hf
    rcases hf with (((hf | hf) | hf) | hf) | hf <;> exact hf.1
  exact graF_ok m f hm
theorem turn_back {m : Mo} {b : List UInt8} (h : encM m = (b, 0)) (hb : b.length ≤ 2000000) :
    writeE (turned (graF m)) = (wr (turned (graF m)), 0) ∧ decM (msg 8 [16, 17] ++ msg 7 (wr (turned (graF m)))) = (m, 0) := by
  obtain ⟨h1, h2, h3, h4⟩ := enc_ok h
  have hg := gra_len h
  have htl := turned_len (graF m)
  have hwt := wr_ok (turned_ok m) (by omega)
  refine ⟨hwt, ?_⟩
  obtain ⟨e1, l1⟩ := msg_wr (num := 8) (by decide) (by decide) (b := [16, 17]) (by simp)
  obtain ⟨e2, l2⟩ := msg_wr (num := 7) (by decide) (by decide) (b := wr (turned (graF m))) (by omega)
  simp only [List.length_cons, List.length_nil] at l1
  have ec : msg 8 [16, 17] ++ msg 7 (wr (turned (graF m))) = wr [dF 8 [16, 17], dF 7 (wr (turned (graF m)))] := by
    rw [e1, e2, wr2]
  have hlen : (wr [dF 8 [16, 17], dF 7 (wr (turned (graF m)))]).length ≤ 4194304 := by
    rw [wr2, List.length_append]; omega
  have hw : WrA [dF 8 [16, 17], dF 7 (wr (turned (graF m)))] := (WrA.d (num := 8) (by decide) (by decide) _).app (.d (num := 7) (by decide) (by decide) _)
  rw [ec]
  refine back_of (l := [dF 8 [16, 17], dF 7 (wr (turned (graF m)))]) (g := wr (turned (graF m))) (lg := turned (graF m)) h1 hlen (dFields_wr hw hlen) ?_ ?_ (dFields_of (turned_ok m) hwt) ?_ ?_
  · rw [dNum_none (by simp [sel, dF])]
  · exact dMsg_one (k := 7) (by simp [sel, dF])
  · intro num hn
    unfold turned
    simp only [sel_app, sel_sel]
    have s15 : sel 15 (graF m) = [] := by simp [graF, sel_app, sel_name, sel_map]
    rcases hn with rfl | rfl | rfl | rfl | rfl | rfl
    · simp
    · simp
    · simp
    · simp
    · simp
    · simp [s15]
  · unfold dFits
    have := dList_map (read := dOwn) (l := [dF 8 [16, 17], dF 7 (wr (turned (graF m)))]) (num := 8) (k := 8) (most := [dF 8 [16, 17], dF 7 (wr (turned (graF m)))].length) (xs := [()]) (g := fun _ => [16, 17]) (r := fun _ => (true, 17)) (by simp [sel, dF]) (fun _ _ => own_set) (by simp)
    rw [this]
    rfl
end Go.Proofs.Ytlhpmlknmgocoaa
