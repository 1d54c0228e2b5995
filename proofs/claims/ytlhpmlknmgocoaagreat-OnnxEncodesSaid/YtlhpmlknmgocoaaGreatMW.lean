import Derived.Test.YtlhpmlknmgocoaaGreatOnF
/- What is encoded is decoded: plain laws of a model's messages. No program in sight. -/
namespace Go.Proofs.YtlhpmlknmgocoaaGreat
set_option linter.unusedSimpArgs false
set_option linter.unusedVariables false
open Go.RowKit

theorem u64_lt (x : Int64) : u64 x < 18446744073709551616 := by unfold u64; exact UInt64.toNat_lt _
theorem i64_u64 (x : Int64) : i64 (u64 x) = x := by simp [i64, u64]
theorem i64_zero : i64 0 = 0 := by decide
theorem u32_nat (x : UInt32) : UInt32.ofNat x.toNat = x := by simp

/-! ### fields that are written -/
def WrA (fs : List Fld) : Prop := ∀ f ∈ fs, mayF f = true ∧ f.x < 18446744073709551616
theorem WrA.nil : WrA [] := fun _ h => by cases h
theorem WrA.app {a b : List Fld} (h : WrA a) (h' : WrA b) : WrA (a ++ b) := fun f hf => by
  rcases List.mem_append.1 hf with hf | hf
  · exact h f hf
  · exact h' f hf
theorem WrA.v {num : Int} {x : Nat} (h : 1 ≤ num) (h' : num ≤ 536870911) (hx : x < 18446744073709551616) : WrA [vF num x] := fun f hf => by
  simp only [List.mem_singleton] at hf
  subst hf
  exact ⟨by simp [mayF, mayN, vF, h, h'], hx⟩
theorem WrA.map {α : Type} {num : Int} (h : 1 ≤ num) (h' : num ≤ 536870911) (g : α → List UInt8) (l : List α) : WrA (l.map fun a => dF num (g a)) := fun f hf => by
  obtain ⟨a, -, rfl⟩ := List.mem_map.1 hf
  exact ⟨by simp [mayF, mayN, dF, h, h'], by simp [dF]⟩
theorem WrA.map1 {num : Int} (h : 1 ≤ num) (h' : num ≤ 536870911) (l : List (List UInt8)) : WrA (l.map (dF num)) := WrA.map h h' (fun a => a) l
theorem WrA.d {num : Int} (h : 1 ≤ num) (h' : num ≤ 536870911) (b : List UInt8) : WrA [dF num b] := WrA.map h h' (fun a => a) [b]
theorem WrA.name {num : Int} (h : 1 ≤ num) (h' : num ≤ 536870911) (s : List UInt8) : WrA (nameF num s) := by
  unfold nameF; split
  · exact WrA.nil
  · exact WrA.d h h' s
theorem WrA.pack {num : Int} (h : 1 ≤ num) (h' : num ≤ 536870911) (s : List Int64) : WrA (packF num s) := by
  unfold packF; split
  · exact WrA.nil
  · exact WrA.d h h' _
theorem wr_app (a b : List Fld) : wr (a ++ b) = wr a ++ wr b := by unfold wr; exact List.flatMap_append
theorem wr_one (f : Fld) : wr [f] = wrF f := by simp [wr]
theorem wrF_v_len (num : Int) (x : Nat) : (wrF (vF num x)).length ≤ 20 := by
  have h1 := (vi_len (num.toNat * 8 + (0 : Int).toNat)).1
  have h2 := (vi_len x).1
  unfold wrF vF
  rw [List.length_append]; simp only [if_true]; omega
theorem wrF_d_len (num : Int) (b : List UInt8) : (wrF (dF num b)).length ≤ 20 + b.length := by
  have h1 := (vi_len (num.toNat * 8 + (2 : Int).toNat)).1
  have h2 := (vi_len b.length).1
  unfold wrF dF
  rw [List.length_append]
  dsimp only
  rw [if_neg (by decide), if_neg (by decide), if_neg (by decide), List.length_append]; omega
theorem wr_name_len (num : Int) (s : List UInt8) : (wr (nameF num s)).length ≤ 20 + s.length := by
  unfold nameF; split
  · simp [wr]
  · rw [wr_one]; exact wrF_d_len _ _
theorem wr_map_len {α : Type} (g : α → Fld) (B : Nat) : ∀ (l : List α), (∀ a ∈ l, (wrF (g a)).length ≤ B) → (wr (l.map g)).length ≤ l.length * B
  | [], _ => by simp [wr]
  | a :: l, h => by
    have h1 := h a (by simp)
    have h2 := wr_map_len g B l fun a ha => h a (by simp [ha])
    have e : wr ((a :: l).map g) = wrF (g a) ++ wr (l.map g) := by simp [wr]
    rw [e, List.length_append, List.length_cons, Nat.add_mul]; omega
theorem packB_len : ∀ l : List Int64, (packB l).length ≤ 10 * l.length
  | [] => by simp [packB]
  | x :: l => by
    have h1 := packB_len l
    have h2 := (vi_len (u64 x)).1
    have e : packB (x :: l) = vi (u64 x) ++ packB l := by simp [packB]
    rw [e, List.length_append, List.length_cons]; omega
theorem wr_pack_len (num : Int) (l : List Int64) : (wr (packF num l)).length ≤ 20 + 10 * l.length := by
  have := packB_len l
  unfold packF; split
  · simp [wr]
  · rw [wr_one]
    have := wrF_d_len num (packB l)
    omega
theorem rawF_len : ∀ l : List UInt32, (rawF l).length = 4 * l.length
  | [] => by simp [rawF]
  | x :: l => by
    have e : rawF (x :: l) = fix8 x.toNat 4 ++ rawF l := by simp [rawF]
    rw [e, List.length_append, rawF_len l, fix8_len, List.length_cons]; omega
theorem rawI_len : ∀ l : List Int64, (rawI l).length = 8 * l.length
  | [] => by simp [rawI]
  | x :: l => by
    have e : rawI (x :: l) = fix8 (u64 x) 8 ++ rawI l := by simp [rawI]
    rw [e, List.length_append, rawI_len l, fix8_len, List.length_cons]; omega
theorem rawO_len (l : List Bool) : (rawO l).length = l.length := by simp [rawO]

theorem wr_ok {fs : List Fld} (h : WrA fs) (hl : (wr fs).length ≤ 4194304) : writeE fs = (wr fs, 0) := by
  unfold writeE
  rw [if_pos (List.all_eq_true.2 fun f hf => (h f hf).1), if_neg (by omega)]
theorem data_len {fs : List Fld} {f : Fld} (hf : f ∈ fs) : f.data.length ≤ bulkF fs := by
  induction fs with
  | nil => cases hf
  | cons a fs ih =>
    simp only [bulkF]
    rcases List.mem_cons.1 hf with rfl | hf
    · omega
    · have := ih hf; omega
/-- what is written is read -/
theorem dFields_of {fs : List Fld} {b : List UInt8} (h : WrA fs) (hb : writeE fs = (b, 0)) : dFields b = (fs, fl0) := by
  have hw : wr fs = b ∧ (wr fs).length ≤ 4194304 := by
    unfold writeE at hb
    rw [if_pos (List.all_eq_true.2 fun f hf => (h f hf).1)] at hb
    split at hb
    · simp at hb
    · rename_i h1
      simp at hb
      exact ⟨hb, by omega⟩
  have h1 := wr_bulk fs fun f hf => (h f hf).1
  have h2 := read_write (fs := fs) (fun f hf => ⟨(h f hf).2, by have := data_len hf; omega⟩) hb
  unfold dFields
  rw [h2]
  rfl
theorem dFields_wr {fs : List Fld} (h : WrA fs) (hl : (wr fs).length ≤ 4194304) : dFields (wr fs) = (fs, fl0) := dFields_of h (wr_ok h hl)
theorem encW_wr {fs : List Fld} (h : WrA fs) (hl : (wr fs).length ≤ 4194304) : encW fs = wr fs := by unfold encW; rw [wr_ok h hl]

/-! ### fields of a number -/
theorem sel_app (num : Int) (a b : List Fld) : sel num (a ++ b) = sel num a ++ sel num b := List.filter_append ..
theorem sel_v (num k : Int) (x : Nat) : sel num [vF k x] = if k = num then [vF k x] else [] := by
  by_cases h : k = num <;> simp [sel, vF, h]
theorem sel_f (num k wire : Int) (x : Nat) (d : List UInt8) : sel num [⟨k, wire, x, d⟩] = if k = num then [⟨k, wire, x, d⟩] else [] := by
  by_cases h : k = num <;> simp [sel, h]
theorem sel_d (num k : Int) (b : List UInt8) : sel num [dF k b] = if k = num then [dF k b] else [] := by
  by_cases h : k = num <;> simp [sel, dF, h]
theorem sel_name (num k : Int) (s : List UInt8) : sel num (nameF k s) = if k = num then nameF k s else [] := by
  unfold nameF; split
  · simp [sel]
  · exact sel_d _ _ _
theorem sel_pack (num k : Int) (s : List Int64) : sel num (packF k s) = if k = num then packF k s else [] := by
  unfold packF; split
  · simp [sel]
  · exact sel_d _ _ _
theorem sel_map {α : Type} (num k : Int) (g : α → List UInt8) (l : List α) : sel num (l.map fun a => dF k (g a)) = if k = num then l.map (fun a => dF k (g a)) else [] := by
  induction l with
  | nil => simp [sel]
  | cons a l ih =>
    have e : sel num ((a :: l).map fun a => dF k (g a)) = sel num [dF k (g a)] ++ sel num (l.map fun a => dF k (g a)) := by
      rw [← sel_app]; rfl
    rw [e, ih, sel_d]
    split <;> simp
theorem sel_map1 (num k : Int) (l : List (List UInt8)) : sel num (l.map (dF k)) = if k = num then l.map (dF k) else [] := sel_map num k (fun a => a) l

theorem dNum_one {l : List Fld} {num k : Int} {x : Nat} (h : sel num l = [vF k x]) : dNum l num = ((i64 x, true), fl0) := by
  unfold dNum; rw [h]; simp [lastF, vF, flb, fl0]
theorem dNum_none {l : List Fld} {num : Int} (h : sel num l = []) : dNum l num = ((0, false), fl0) := by
  unfold dNum; rw [h]; simp [lastF, zf, flb, fl0, i64_zero]
theorem dText_one {l : List Fld} {num k : Int} {s : List UInt8} {most : Nat} (h : sel num l = [dF k s]) (hl : s.length ≤ most) : dText l num most = (s, fl0) := by
  unfold dText; rw [h]; simp [lastF, dF, fl0]; omega
theorem dText_none {l : List Fld} {num : Int} {most : Nat} (h : sel num l = []) : dText l num most = ([], fl0) := by
  unfold dText; rw [h]; simp [lastF, zf, fl0]
theorem dText_name {l : List Fld} {num k : Int} {s : List UInt8} {most : Nat} (h : sel num l = nameF k s) (hl : s.length ≤ most) : dText l num most = (s, fl0) := by
  unfold nameF at h
  split at h
  · rename_i h1
    rw [dText_none h, List.isEmpty_iff.1 h1]
  · exact dText_one h hl
theorem dMsg_one {l : List Fld} {num k : Int} {s : List UInt8} (h : sel num l = [dF k s]) : dMsg l num = ((s, true), fl0) := by
  unfold dMsg jnb jne; rw [h]; simp [jn, dF, flb, fl0]
theorem dMsg_none {l : List Fld} {num : Int} (h : sel num l = []) : dMsg l num = (([], false), fl0) := by
  unfold dMsg jnb jne; rw [h]; simp [jn, flb, fl0]
theorem all_zero {α : Type} (l : List α) : Fl.all (l.map fun _ => fl0) = fl0 := by
  unfold Fl.all fl0
  simp
theorem dList_map {α β : Type} {read : List UInt8 → β × Fl} {l : List Fld} {num k : Int} {most : Nat} {xs : List α} {g : α → List UInt8} {r : α → β} (h : sel num l = xs.map fun a => dF k (g a)) (hr : ∀ a ∈ xs, read (g a) = (r a, fl0)) (hm : xs.length ≤ most) :
    dList read l num most = (xs.map r, fl0) := by
  have h1 : ((xs.map fun a => dF k (g a)).map fun f => (read f.data).1) = xs.map r := by
    rw [List.map_map]
    exact List.map_congr_left fun a ha => by simp [dF, hr a ha]
  have h2 : ((xs.map fun a => dF k (g a)).map fun f => (read f.data).2) = xs.map fun _ => fl0 := by
    rw [List.map_map]
    exact List.map_congr_left fun a ha => by simp [dF, hr a ha]
  have h3 : ((xs.map fun a => dF k (g a)).any fun f => !decide (f.wire = 2)) = false := by
    rw [List.any_eq_false]
    intro f hf
    obtain ⟨a, -, rfl⟩ := List.mem_map.1 hf
    simp [dF]
  unfold dList
  rw [h, h1, h2, h3, all_zero]
  simp [Fl.or, fl0, flb]; omega
theorem dList_map1 {β : Type} {read : List UInt8 → β × Fl} {l : List Fld} {num k : Int} {most : Nat} {xs : List (List UInt8)} {r : List UInt8 → β} (h : sel num l = xs.map (dF k)) (hr : ∀ a ∈ xs, read a = (r a, fl0)) (hm : xs.length ≤ most) :
    dList read l num most = (xs.map r, fl0) := dList_map (g := fun a => a) h hr hm
theorem dList_none {β : Type} {read : List UInt8 → β × Fl} {l : List Fld} {num : Int} {most : Nat} (h : sel num l = []) : dList read l num most = ([], fl0) := by
  unfold dList; rw [h]; simp [Fl.or, fl0, flb, Fl.all]

/-! ### numbers in one field -/
theorem vsa_pack : ∀ (xs : List Int64) (pre : List UInt8) (f : Nat), (pre ++ packB xs).length < pre.length + f → vsa f (pre ++ packB xs) pre.length = some (xs.map u64)
  | _, pre, 0, h => by rw [List.length_append] at h; omega
  | [], pre, f + 1, _ => by simp [vsa, packB]
  | x :: xs, pre, f + 1, h => by
    have e : packB (x :: xs) = vi (u64 x) ++ packB xs := by simp [packB]
    have hp := (vi_len (u64 x)).2
    rw [e] at h ⊢
    simp only [List.length_append] at h
    have hne : ¬ pre.length = (pre ++ (vi (u64 x) ++ packB xs)).length := by simp only [List.length_append]; omega
    have h1 : rdv 0 ((pre ++ (vi (u64 x) ++ packB xs)).drop pre.length) = some (u64 x, (vi (u64 x)).length) := by
      rw [List.drop_left]; exact rdv_vi _ _ (u64_lt x)
    have h2 := vsa_pack xs (pre ++ vi (u64 x)) f (by simp only [List.length_append]; omega)
    rw [List.length_append, List.append_assoc] at h2
    simp only [vsa, hne, if_false, h1, h2]
    rfl
theorem vs_pack (xs : List Int64) : vs (packB xs) = some (xs.map u64) := by
  have := vsa_pack xs [] ((packB xs).length + 1) (by simp)
  simpa [vs] using this
theorem map_i64 (xs : List Int64) : (xs.map u64).map i64 = xs := by
  rw [List.map_map]
  have : (i64 ∘ u64) = id := by funext x; exact i64_u64 x
  rw [this, List.map_id]
theorem dInts_pack {l : List Fld} {num k : Int} {xs : List Int64} (h : sel num l = packF k xs) : dInts l num = (xs, fl0) := by
  unfold packF at h
  unfold dInts
  rw [ints_gat, h]
  split
  · rename_i h1
    rw [List.isEmpty_iff.1 h1]; simp [gat, flb, fl0]
  · have e : gat ints0 [dF k (packB xs)] = some (xs.map u64) := by
      simp only [gat, ints0, dF]
      rw [if_neg (by decide), if_pos trivial, vs_pack]
      simp
    rw [e]
    simp only [Option.getD_some, map_i64]
    rfl
theorem dInts_none {l : List Fld} {num : Int} (h : sel num l = []) : dInts l num = ([], fl0) := by
  unfold dInts; rw [ints_gat, h]; simp [gat, flb, fl0]
theorem dFloats_none {l : List Fld} {num : Int} (h : sel num l = []) : dFloats l num = ([], fl0) := by
  unfold dFloats; rw [fixs_gat, h]; simp [gat, flb, fl0]
theorem lit8_fix4 (x : UInt32) : lit8 (fix8 x.toNat 4) = x.toNat := by
  rw [lit8_fix]; exact Nat.mod_eq_of_lt (by have := x.toNat_lt; simpa using this)
theorem lit8_fix64 (x : Int64) : lit8 (fix8 (u64 x) 8) = u64 x := by
  rw [lit8_fix]; exact Nat.mod_eq_of_lt (by have := u64_lt x; simpa using this)
theorem cutN_rawF : ∀ xs : List UInt32, cutN 4 xs.length (rawF xs) = xs.map (·.toNat)
  | [] => rfl
  | x :: xs => by
    have e : rawF (x :: xs) = fix8 x.toNat 4 ++ rawF xs := by simp [rawF]
    rw [e, List.length_cons, cutN, List.take_left' (fix8_len _ _), List.drop_left' (fix8_len _ _), cutN_rawF xs, lit8_fix4]; rfl
theorem cutN_rawI : ∀ xs : List Int64, cutN 8 xs.length (rawI xs) = xs.map u64
  | [] => rfl
  | x :: xs => by
    have e : rawI (x :: xs) = fix8 (u64 x) 8 ++ rawI xs := by simp [rawI]
    rw [e, List.length_cons, cutN, List.take_left' (fix8_len _ _), List.drop_left' (fix8_len _ _), cutN_rawI xs, lit8_fix64]; rfl
theorem cutN_rawO : ∀ xs : List Bool, cutN 1 xs.length (rawO xs) = xs.map fun x => if x then 1 else 0
  | [] => rfl
  | x :: xs => by
    have e : rawO (x :: xs) = [if x then 1 else 0] ++ rawO xs := by simp [rawO]
    have h1 : ([if x = true then 1 else 0] ++ rawO xs : List UInt8).take 1 = [if x = true then 1 else 0] := rfl
    have h2 : ([if x = true then 1 else 0] ++ rawO xs : List UInt8).drop 1 = rawO xs := rfl
    rw [e, List.length_cons, cutN, h1, h2, cutN_rawO xs]
    cases x <;> rfl
theorem fours_cut : ∀ (n : Nat) (l : List UInt8), fours l n = cutN 4 n l
  | 0, l => by simp [fours, cutN]
  | n + 1, l => by
    have h1 : fours l (n + 1) = lit8 (l.take 4) :: fours (l.drop 4) n := by
      unfold fours
      rw [List.range_succ_eq_map, List.map_cons, List.map_map]
      congr 1
      refine List.map_congr_left fun i _ => ?_
      simp only [Function.comp, List.drop_drop, Nat.succ_eq_add_one, Nat.mul_add, Nat.mul_one]
      rw [Nat.add_comm]
    rw [h1, fours_cut n, cutN]
theorem dFloats_one {l : List Fld} {num k : Int} {xs : List UInt32} (h : sel num l = [dF k (rawF xs)]) : dFloats l num = (xs, fl0) := by
  have h1 : (rawF xs).length % 4 = 0 := by rw [rawF_len]; omega
  have h2 : (rawF xs).length / 4 = xs.length := by rw [rawF_len]; omega
  have h3 : (xs.map (·.toNat)).map UInt32.ofNat = xs := by
    rw [List.map_map]
    have : (UInt32.ofNat ∘ fun x : UInt32 => x.toNat) = id := by funext x; exact u32_nat x
    rw [this, List.map_id]
  unfold dFloats
  rw [fixs_gat, h]
  simp only [gat, fixs0, dF]
  rw [if_neg (by decide), if_pos ⟨trivial, h1⟩, h2, fours_cut, cutN_rawF]
  simp only [Option.map_some, List.append_nil, Option.getD_some, h3]
  rfl
end Go.Proofs.YtlhpmlknmgocoaaGreat

/- What is encoded is decoded: tensors, attributes, nodes, values, models. No program in sight. -/
namespace Go.Proofs.YtlhpmlknmgocoaaGreat
set_option linter.unusedSimpArgs false
set_option linter.unusedVariables false
open Go.RowKit

theorem sel_nil (num : Int) : sel num [] = [] := rfl
theorem sel_vc (num k : Int) (x : Nat) (l : List Fld) : sel num (vF k x :: l) = (if k = num then [vF k x] else []) ++ sel num l := by
  by_cases h : k = num <;> simp [sel, vF, h]
theorem sel_dc (num k : Int) (b : List UInt8) (l : List Fld) : sel num (dF k b :: l) = (if k = num then [dF k b] else []) ++ sel num l := by
  by_cases h : k = num <;> simp [sel, dF, h]
theorem cnt_len {l : List Int64} (h : (cnt l).2 = 0) : l.length ≤ 8 := by
  unfold cnt at h
  split at h
  · simp at h
  · split at h
    · simp at h
    · omega
/-- a tensor that may be written -/
structure TnOk (t : Tn) : Prop where
  ty : t.ty = 1 ∨ t.ty = 7 ∨ t.ty = 9
  err : (cnt t.dims).2 = 0
  want : wantT (cnt t.dims).1 t = true
theorem TnOk.of {t : Tn} (hb : badT t = false) (hm : manyT false t = false) : TnOk t := by
  simp only [badT, manyT, knownP, Bool.or_eq_false_iff, Bool.not_eq_false', Bool.and_eq_false_imp, decide_eq_true_eq, Bool.or_eq_true, decide_eq_false_iff_not] at hb hm
  obtain ⟨⟨h1, h2⟩, h3⟩ := hb
  have h4 : (cnt t.dims).2 = 0 := by
    rcases cnt_err t.dims with h | h | h
    · exact h
    · exact absurd h h2
    · have := hm h
      simp at this
  refine ⟨?_, h4, ?_⟩
  · rcases h1 with (h1 | h1) | h1
    · exact .inl h1
    · exact .inr (.inl h1)
    · exact .inr (.inr h1)
  · have := h3 h4
    simpa using this
theorem tenF_ok (name : List UInt8) (t : Tn) : WrA (tenF name t) :=
  (((WrA.pack (by decide) (by decide) _).app (.v (by decide) (by decide) (u64_lt _))).app (.name (by decide) (by decide) _)).app (.d (by decide) (by decide) _)
theorem TnOk.raw {t : Tn} (h : TnOk t) : (rawT t).length ≤ 32768 := by
  have h1 := h.want
  have h2 := cnt_val t.dims
  generalize (cnt t.dims).1 = n at *
  unfold rawT
  simp only [List.length_append, rawF_len, rawI_len, rawO_len]
  unfold wantT at h1
  split at h1
  · simp only [Bool.and_eq_true, decide_eq_true_eq, List.isEmpty_iff] at h1
    obtain ⟨⟨h3, h4⟩, h5⟩ := h1
    rw [h4, h5]; simp; omega
  · split at h1
    · simp only [Bool.and_eq_true, decide_eq_true_eq, List.isEmpty_iff] at h1
      obtain ⟨⟨h3, h4⟩, h5⟩ := h1
      rw [h4, h5]; simp; omega
    · simp only [Bool.and_eq_true, decide_eq_true_eq, List.isEmpty_iff] at h1
      obtain ⟨⟨h3, h4⟩, h5⟩ := h1
      rw [h4, h5]; simp; omega
theorem tenF_len {name : List UInt8} {t : Tn} (h : TnOk t) (hn : name.length ≤ 256) : (wr (tenF name t)).length ≤ 33184 := by
  have h1 := h.raw
  have h2 := cnt_len h.err
  have h3 := wr_pack_len 1 t.dims
  have h4 := wrF_v_len 2 (u64 t.ty)
  have h5 := wr_name_len 8 name
  have h6 := wrF_d_len 9 (rawT t)
  unfold tenF
  simp only [wr_app, List.length_append, wr_one]
  omega
theorem raw_back {t : Tn} (h : TnOk t) : rawP t.ty t.dims (cnt t.dims).1.toNat (rawT t) = (t, true) := by
  have h1 := h.want
  obtain ⟨ty, dims, f, i, b⟩ := t
  have hty := h.ty
  clear h
  dsimp only at *
  generalize (cnt dims).1 = n at *
  rcases hty with rfl | rfl | rfl
  · simp only [wantT, if_true, Bool.and_eq_true, decide_eq_true_eq, List.isEmpty_iff] at h1
    obtain ⟨⟨h3, h4⟩, h5⟩ := h1
    subst h4 h5
    have hn : n.toNat = f.length := by omega
    have hr : rawT ⟨1, dims, f, [], []⟩ = rawF f := by simp [rawT, rawI, rawO]
    have h3 : (f.map (·.toNat)).map UInt32.ofNat = f := by
      rw [List.map_map]
      have : (UInt32.ofNat ∘ fun x : UInt32 => x.toNat) = id := by funext x; exact u32_nat x
      rw [this, List.map_id]
    rw [hr, hn]
    unfold rawP widthP
    rw [if_pos rfl, if_neg (by rw [rawF_len]; omega), if_pos rfl, cutN_rawF, h3]
  · have e7 : ¬ ((7 : Int64) = 1) := by decide
    simp only [wantT, if_true, if_neg e7, Bool.and_eq_true, decide_eq_true_eq, List.isEmpty_iff] at h1
    obtain ⟨⟨h3, h4⟩, h5⟩ := h1
    subst h4 h5
    have hn : n.toNat = i.length := by omega
    have hr : rawT ⟨7, dims, [], i, []⟩ = rawI i := by simp [rawT, rawF, rawO]
    rw [hr, hn]
    unfold rawP widthP
    rw [if_neg e7, if_pos rfl, if_neg (by rw [rawI_len]; omega), if_neg e7, if_pos rfl, cutN_rawI, map_i64]
  · have e9 : ¬ ((9 : Int64) = 1) := by decide
    have e9' : ¬ ((9 : Int64) = 7) := by decide
    simp only [wantT, if_neg e9, if_neg e9', Bool.and_eq_true, decide_eq_true_eq, List.isEmpty_iff] at h1
    obtain ⟨⟨h3, h4⟩, h5⟩ := h1
    subst h4 h5
    have hn : n.toNat = b.length := by omega
    have hr : rawT ⟨9, dims, [], [], b⟩ = rawO b := by simp [rawT, rawF, rawI]
    have h6 : (b.map fun x => if x then 1 else 0).map (fun x : Nat => decide (x = 1)) = b := by
      rw [List.map_map]
      have : ((fun x : Nat => decide (x = 1)) ∘ fun x : Bool => if x then 1 else 0) = id := by funext x; cases x <;> rfl
      rw [this, List.map_id]
    have h7 : (b.map fun x => if x then 1 else 0).all (fun x : Nat => decide (x ≤ 1)) = true := by
      rw [List.all_eq_true]
      intro x hx
      obtain ⟨y, -, rfl⟩ := List.mem_map.1 hx
      cases y <;> rfl
    rw [hr, hn]
    unfold rawP widthP
    rw [if_neg e9, if_neg e9', if_neg (by rw [rawO_len]; omega), if_neg e9, if_neg e9', cutN_rawO, h6, h7]
theorem tensor_back {name : List UInt8} {t : Tn} (h : TnOk t) (hn : name.length ≤ 256) : dTensor (wr (tenF name t)) = (⟨name, t⟩, fl0) := by
  have hl := tenF_len h hn
  have hd := dFields_wr (tenF_ok name t) (by omega)
  have s8 : sel 8 (tenF name t) = nameF 8 name := by simp [tenF, sel_app, sel_vc, sel_dc, sel_nil, sel_v, sel_d, sel_name, sel_pack]
  have s1 : sel 1 (tenF name t) = packF 1 t.dims := by simp [tenF, sel_app, sel_vc, sel_dc, sel_nil, sel_v, sel_d, sel_name, sel_pack]
  have s2 : sel 2 (tenF name t) = [vF 2 (u64 t.ty)] := by simp [tenF, sel_app, sel_vc, sel_dc, sel_nil, sel_v, sel_d, sel_name, sel_pack]
  have s9 : sel 9 (tenF name t) = [dF 9 (rawT t)] := by simp [tenF, sel_app, sel_vc, sel_dc, sel_nil, sel_v, sel_d, sel_name, sel_pack]
  have s14 : sel 14 (tenF name t) = [] := by simp [tenF, sel_app, sel_vc, sel_dc, sel_nil, sel_v, sel_d, sel_name, sel_pack]
  have s3 : sel 3 (tenF name t) = [] := by simp [tenF, sel_app, sel_vc, sel_dc, sel_nil, sel_v, sel_d, sel_name, sel_pack]
  have s4 : sel 4 (tenF name t) = [] := by simp [tenF, sel_app, sel_vc, sel_dc, sel_nil, sel_v, sel_d, sel_name, sel_pack]
  have s5 : sel 5 (tenF name t) = [] := by simp [tenF, sel_app, sel_vc, sel_dc, sel_nil, sel_v, sel_d, sel_name, sel_pack]
  have s7 : sel 7 (tenF name t) = [] := by simp [tenF, sel_app, sel_vc, sel_dc, sel_nil, sel_v, sel_d, sel_name, sel_pack]
  have hlen : 1 ≤ (tenF name t).length := by simp [tenF]; omega
  have e9 : dList dRaw (tenF name t) 9 (tenF name t).length = ([rawT t], fl0) := dList_map (xs := [rawT t]) (g := fun a => a) (r := fun a => a) s9 (fun _ _ => rfl) hlen
  have hdd : dDims t.dims = (((cnt t.dims).1, true), fl0) := by unfold dDims; rw [h.err]; rfl
  have hk : knownP t.ty = true := by rcases h.ty with e | e | e <;> rw [e] <;> decide
  have hk0 : ¬ t.ty = 0 := by rcases h.ty with e | e | e <;> rw [e] <;> decide
  have hr := raw_back h
  unfold dTensor
  rw [hd]
  have : dTenL (tenF name t) = (⟨name, t⟩, fl0) := by
    unfold dTenL
    rw [dText_name s8 hn, dInts_pack s1, dNum_one s2, dNum_none s14, dList_none s3, dFloats_none s4, dInts_none s5, dInts_none s7, e9]
    dsimp only
    rw [hdd, i64_u64]
    dsimp only
    simp only [hk, hr, Bool.not_true, Bool.or_false, Bool.false_eq_true, if_false, List.isEmpty_cons, List.length_nil, Nat.add_zero, Nat.lt_irrefl, List.getLast?_singleton, Option.getD_some, hk0, decide_false, Bool.not_false, Bool.true_and, decide_true, List.isEmpty_nil]
    simp [Fl.or, fl0, flb]
  rw [this]; rfl

/-! ### attributes -/
theorem attF_ok (a : Atr) : WrA (attF a) := by
  refine ((WrA.name (by decide) (by decide) _).app ?_).app (.v (by decide) (by decide) (u64_lt _))
  unfold attK
  split
  · intro f hf
    simp only [List.mem_singleton] at hf
    subst hf
    have := a.f.toNat_lt
    exact ⟨by simp [mayF, mayN]; omega, by dsimp only; omega⟩
  · split
    · exact .v (by decide) (by decide) (u64_lt _)
    · split
      · exact .d (by decide) (by decide) _
      · split
        · exact .d (by decide) (by decide) _
        · split
          · split
            · exact .nil
            · exact .d (by decide) (by decide) _
          · split
            · exact .pack (by decide) (by decide) _
            · exact .nil
/-- an attribute that may be written -/
structure AtOk (a : Atr) : Prop where
  bad : badA a = false
  many : manyA false a = false
theorem AtOk.name {a : Atr} (h : AtOk a) : a.name.length ≤ 256 := by
  have := h.many
  simp only [manyA, longP, Bool.or_eq_false_iff, decide_eq_false_iff_not] at this
  omega
theorem AtOk.ten {a : Atr} (h : AtOk a) (hk : a.kind = 4) : TnOk a.t := by
  have h1 := h.many
  have h2 := h.bad
  simp only [manyA, badA, Bool.or_eq_false_iff] at h1 h2
  refine TnOk.of ?_ ?_
  · have := h2.2
    rwa [decide_eq_true hk, Bool.true_and] at this
  · have := h1.2
    rwa [decide_eq_true hk, Bool.true_and] at this
theorem wrF_5_len (x : Nat) : (wrF ⟨2, 5, x, []⟩).length ≤ 20 := by
  have h1 := (vi_len ((2 : Int).toNat * 8 + (5 : Int).toNat)).1
  unfold wrF
  rw [List.length_append]
  dsimp only
  rw [if_neg (by decide), if_neg (by decide), if_pos rfl, fix8_len]; omega
theorem attK_len {a : Atr} (h : AtOk a) : (wr (attK a)).length ≤ 40984 := by
  have h1 := h.many
  simp only [manyA, longP, Bool.or_eq_false_iff, decide_eq_false_iff_not] at h1
  obtain ⟨⟨⟨⟨h2, h3⟩, h4⟩, h5⟩, -⟩ := h1
  unfold attK
  split
  · rw [wr_one]; have := wrF_5_len a.f.toNat; omega
  · split
    · rw [wr_one]; have := wrF_v_len 3 (u64 a.i); omega
    · split
      · rw [wr_one]; have := wrF_d_len 4 a.s; omega
      · split
        · rename_i hk
          have ht := h.ten hk
          have hl := tenF_len (name := []) ht (by simp)
          rw [wr_one, encW_wr (tenF_ok _ _) (by omega)]
          have := wrF_d_len 5 (wr (tenF [] a.t)); omega
        · split
          · split
            · simp [wr]
            · rw [wr_one]; have := wrF_d_len 7 (rawF a.fl); rw [rawF_len] at this; omega
          · split
            · have := wr_pack_len 8 a.il; omega
            · simp [wr]
theorem attF_len {a : Atr} (h : AtOk a) : (wr (attF a)).length ≤ 41300 := by
  have h1 := h.name
  have h2 := attK_len h
  have h3 := wr_name_len 1 a.name
  have h4 := wrF_v_len 20 (u64 a.kind)
  unfold attF
  simp only [wr_app, List.length_append, wr_one]
  omega
theorem sel_attK (num : Int) (a : Atr) (h : num = 1 ∨ num = 20) : sel num (attK a) = [] := by
  unfold attK
  rcases h with rfl | rfl
  all_goals
    split
    · simp [sel_f]
    · split
      · simp [sel_v]
      · split
        · simp [sel_d]
        · split
          · simp [sel_d]
          · split
            · split
              · simp [sel]
              · simp [sel_d]
            · split
              · simp [sel_pack]
              · simp [sel]
theorem lastF_none {l : List Fld} {num wire : Int} (h : sel num l = []) : lastF wire (sel num l) = (zf, false, 0) := by rw [h]; rfl
/-- what an attribute's fields give, but for its kind's own -/
theorem attr_core {a : Atr} {l : List Fld} {f : Fld × Bool × Int} {i : Int64} {ib : Bool} {s : List UInt8} {ms : List UInt8 × Bool} {c : Ini} {fs : List UInt32} {is : List Int64}
    (h1 : dText l 1 256 = (a.name, fl0)) (h2 : lastF 5 (sel 2 l) = f) (hf : f.2.2 = 0) (h3 : dNum l 3 = ((i, ib), fl0)) (h4 : dText l 4 4096 = (s, fl0)) (h5 : dMsg l 5 = (ms, fl0)) (h6 : (if ms.2 then dTensor ms.1 else (⟨[], tn0⟩, fl0)) = (c, fl0))
    (h7 : dFloats l 7 = (fs, fl0)) (hfs : fs.length ≤ 4096) (h8 : dInts l 8 = (is, fl0)) (his : is.length ≤ 4096) (h9 : dNum l 20 = ((a.kind, true), fl0)) (hk : kindP a.kind = true) (hm : a.kind = 4 → ms.2 = true)
    (e : (⟨a.name, a.kind, (if a.kind = 1 then UInt32.ofNat f.1.x else 0), (if a.kind = 2 then i else 0), (if a.kind = 3 then s else []), (if a.kind = 4 then c.t else tn0), (if a.kind = 6 then fs else []), (if a.kind = 7 then is else [])⟩ : Atr) = a) : dAttL l = (a, fl0) := by
  unfold dAttL
  rw [h1, h2, h3, h4, h5, h7, h8, h9]
  dsimp only
  rw [h6, hf]
  dsimp only
  have d1 : decide (4096 < fs.length) = false := decide_eq_false (by omega)
  have d2 : decide (4096 < is.length) = false := decide_eq_false (by omega)
  rw [d1, d2]
  obtain ⟨an, ak, af, ai, as', at', afl, ail⟩ := a
  dsimp only at *
  simp only [kindP, Bool.or_eq_true, decide_eq_true_eq] at hk
  injection e with e1 e2 e3 e4 e5 e6 e7 e8
  rcases hk with ((((rfl | rfl) | rfl) | rfl) | rfl) | rfl
  all_goals
    simp at e3 e4 e5 e6 e7 e8
    subst e3 e4 e5 e6 e7 e8
  all_goals first
    | (simp [Fl.or, fl0, flb]; done)
    | (simp [Fl.or, fl0, flb, hm]; done)
theorem attr_back {a : Atr} (h : AtOk a) : dAttr (wr (attF a)) = (a, fl0) := by
  have hl := attF_len h
  have hd := dFields_wr (attF_ok a) (by omega)
  have hbad := h.bad
  simp only [badA, Bool.or_eq_false_iff, Bool.not_eq_false'] at hbad
  obtain ⟨⟨⟨⟨⟨⟨⟨hkind, b1⟩, b2⟩, b3⟩, b4⟩, b6⟩, b7⟩, -⟩ := hbad
  have hmany := h.many
  simp only [manyA, longP, Bool.or_eq_false_iff, decide_eq_false_iff_not] at hmany
  obtain ⟨⟨⟨⟨m1, m3⟩, m6⟩, m7⟩, -⟩ := hmany
  have hn := h.name
  have s1 : sel 1 (attF a) = nameF 1 a.name := by simp [attF, sel_app, sel_vc, sel_dc, sel_nil, sel_v, sel_name, sel_attK]
  have s20 : sel 20 (attF a) = [vF 20 (u64 a.kind)] := by simp [attF, sel_app, sel_vc, sel_dc, sel_nil, sel_v, sel_name, sel_attK]
  have h9 : dNum (attF a) 20 = ((a.kind, true), fl0) := by rw [dNum_one s20, i64_u64]
  have st : ∀ num, num ≠ 1 → num ≠ 20 → sel num (attF a) = sel num (attK a) := fun num h1 h2 => by simp [attF, sel_app, sel_vc, sel_dc, sel_nil, sel_v, sel_name, Ne.symm h1, Ne.symm h2]
  have hnone : noneT a.t = true → a.t = tn0 := by
    intro h0
    generalize a.t = t at *
    obtain ⟨ty, dims, f, i, b⟩ := t
    simp only [noneT, Bool.and_eq_true, decide_eq_true_eq, List.isEmpty_iff] at h0
    obtain ⟨⟨⟨⟨rfl, rfl⟩, rfl⟩, rfl⟩, rfl⟩ := h0
    rfl
  unfold dAttr
  rw [hd]
  have hten := h.ten
  have : dAttL (attF a) = (a, fl0) := by
    have k2 := st 2 (by decide) (by decide)
    have k3 := st 3 (by decide) (by decide)
    have k4 := st 4 (by decide) (by decide)
    have k5 := st 5 (by decide) (by decide)
    have k7 := st 7 (by decide) (by decide)
    have k8 := st 8 (by decide) (by decide)
    have hk := hkind
    simp only [kindP, Bool.or_eq_true, decide_eq_true_eq] at hk
    rcases hk with ((((hk | hk) | hk) | hk) | hk) | hk
    · have ka : attK a = [⟨2, 5, a.f.toNat, []⟩] := by simp [attK, hk]
      rw [ka] at k2 k3 k4 k5 k7 k8
      simp [sel_f] at k2 k3 k4 k5 k7 k8
      refine attr_core (f := (⟨2, 5, a.f.toNat, []⟩, true, 0)) (dText_name s1 hn) (by rw [k2]; rfl) rfl (dNum_none k3) (dText_none k4) (dMsg_none k5) rfl (dFloats_none k7) (by simp) (dInts_none k8) (by simp) h9 hkind (by simp [hk]) ?_
      obtain ⟨an, ak, af, ai, as', at', afl, ail⟩ := a
      dsimp only at *
      subst hk
      simp at b2 b3 b4 b6 b7
      simp [b2, b3, hnone b4, b6, b7]
    · have ka : attK a = [vF 3 (u64 a.i)] := by simp [attK, hk]
      rw [ka] at k2 k3 k4 k5 k7 k8
      simp [sel_v] at k2 k3 k4 k5 k7 k8
      refine attr_core (dText_name s1 hn) (lastF_none k2) rfl (dNum_one k3) (dText_none k4) (dMsg_none k5) rfl (dFloats_none k7) (by simp) (dInts_none k8) (by simp) h9 hkind (by simp [hk]) ?_
      obtain ⟨an, ak, af, ai, as', at', afl, ail⟩ := a
      dsimp only at *
      subst hk
      simp at b1 b3 b4 b6 b7
      simp [b1, b3, hnone b4, b6, b7, i64_u64]
    · have ka : attK a = [dF 4 a.s] := by simp [attK, hk]
      rw [ka] at k2 k3 k4 k5 k7 k8
      simp [sel_d] at k2 k3 k4 k5 k7 k8
      refine attr_core (dText_name s1 hn) (lastF_none k2) rfl (dNum_none k3) (dText_one k4 (by omega)) (dMsg_none k5) rfl (dFloats_none k7) (by simp) (dInts_none k8) (by simp) h9 hkind (by simp [hk]) ?_
      obtain ⟨an, ak, af, ai, as', at', afl, ail⟩ := a
      dsimp only at *
      subst hk
      simp at b1 b2 b4 b6 b7
      simp [b1, b2, hnone b4, b6, b7]
    · have ka : attK a = [dF 5 (encW (tenF [] a.t))] := by simp [attK, hk]
      have ht := hten hk
      have hl2 := tenF_len (name := []) ht (by simp)
      rw [ka, encW_wr (tenF_ok _ _) (by omega)] at k2 k3 k4 k5 k7 k8
      simp [sel_d] at k2 k3 k4 k5 k7 k8
      refine attr_core (c := ⟨[], a.t⟩) (dText_name s1 hn) (lastF_none k2) rfl (dNum_none k3) (dText_none k4) (dMsg_one k5) (tensor_back ht (by simp)) (dFloats_none k7) (by simp) (dInts_none k8) (by simp) h9 hkind (fun _ => rfl) ?_
      obtain ⟨an, ak, af, ai, as', at', afl, ail⟩ := a
      dsimp only at *
      subst hk
      simp at b1 b2 b3 b6 b7
      simp [b1, b2, b3, b6, b7]
    · have ka : attK a = if a.fl.isEmpty then [] else [dF 7 (rawF a.fl)] := by simp [attK, hk]
      have hfl : dFloats (attF a) 7 = (a.fl, fl0) := by
        by_cases he : a.fl = []
        · rw [dFloats_none (by rw [k7, ka, he]; rfl), he]
        · exact dFloats_one (k := 7) (by rw [k7, ka, if_neg (by simpa using he)]; simp [sel_d])
      have kn : ∀ num, num ≠ 7 → sel num (attK a) = [] := fun num hn => by
        rw [ka]; split
        · simp [sel]
        · simp [sel_d, Ne.symm hn]
      rw [kn _ (by decide)] at k2 k3 k4 k5 k8
      refine attr_core (dText_name s1 hn) (lastF_none k2) rfl (dNum_none k3) (dText_none k4) (dMsg_none k5) rfl hfl (by omega) (dInts_none k8) (by simp) h9 hkind (by simp [hk]) ?_
      obtain ⟨an, ak, af, ai, as', at', afl, ail⟩ := a
      dsimp only at *
      subst hk
      simp at b1 b2 b3 b4 b7
      simp [b1, b2, b3, hnone b4, b7]
    · have ka : attK a = packF 8 a.il := by simp [attK, hk]
      rw [ka] at k2 k3 k4 k5 k7 k8
      simp [sel_pack] at k2 k3 k4 k5 k7 k8
      refine attr_core (dText_name s1 hn) (lastF_none k2) rfl (dNum_none k3) (dText_none k4) (dMsg_none k5) rfl (dFloats_none k7) (by simp) (dInts_pack k8) (by omega) h9 hkind (by simp [hk]) ?_
      obtain ⟨an, ak, af, ai, as', at', afl, ail⟩ := a
      dsimp only at *
      subst hk
      simp at b1 b2 b3 b4 b6
      simp [b1, b2, b3, hnone b4, b6]
  rw [this]; rfl

/-! ### nodes -/
structure NdOk (n : Nod) : Prop where
  bad : badN n = false
  many : manyN false n = false
theorem NdOk.att {n : Nod} (h : NdOk n) : ∀ a ∈ n.attrs, AtOk a := fun a ha => by
  have h1 := h.bad
  have h2 := h.many
  simp only [badN, manyN, Bool.or_eq_false_iff, List.any_eq_false] at h1 h2
  exact ⟨by simpa using h1.2 a ha, by simpa using h2.2 a ha⟩
theorem nodF_ok (n : Nod) : WrA (nodF n) :=
  ((((WrA.map1 (by decide) (by decide) _).app (.map1 (by decide) (by decide) _)).app (.name (by decide) (by decide) _)).app (.d (by decide) (by decide) _)).app (.map (by decide) (by decide) (fun a => encW (attF a)) _)
theorem long_all {l : List (List UInt8)} (h : l.any longP = false) : ∀ s ∈ l, s.length ≤ 256 := fun s hs => by
  rw [List.any_eq_false] at h
  have := h s hs
  simp [longP] at this; exact this
theorem mul_le2 {a b A B : Nat} (h : a ≤ A) (h' : b ≤ B) : a * b ≤ A * B := Nat.mul_le_mul h h'
theorem nodF_len {n : Nod} (h : NdOk n) : (wr (nodF n)).length ≤ 2700000 := by
  have h2 := h.many
  simp only [manyN, Bool.or_eq_false_iff, decide_eq_false_iff_not] at h2
  obtain ⟨⟨⟨⟨⟨⟨⟨ho, hn⟩, hi⟩, hu⟩, li⟩, lo⟩, la⟩, -⟩ := h2
  simp only [longP, decide_eq_false_iff_not] at ho hn
  have g1 := wr_map_len (dF 1) 276 n.ins fun s hs => by have := wrF_d_len 1 s; have := long_all hi s hs; omega
  have g2 := wr_map_len (dF 2) 276 n.outs fun s hs => by have := wrF_d_len 2 s; have := long_all hu s hs; omega
  have g3 := wr_name_len 3 n.name
  have g4 := wrF_d_len 4 n.op
  have g5 := wr_map_len (fun a => dF 5 (encW (attF a))) 41320 n.attrs fun a ha => by
    have h3 := attF_len (h.att a ha)
    rw [encW_wr (attF_ok _) (by omega)]
    have := wrF_d_len 5 (wr (attF a)); omega
  unfold nodF
  simp only [wr_app, List.length_append, wr_one]
  have m1 := mul_le2 (show n.ins.length ≤ 64 by omega) (Nat.le_refl 276)
  have m2 := mul_le2 (show n.outs.length ≤ 64 by omega) (Nat.le_refl 276)
  have m3 := mul_le2 (show n.attrs.length ≤ 64 by omega) (Nat.le_refl 41320)
  omega
theorem dNames_of {l : List Fld} {num k : Int} {xs : List (List UInt8)} (h : sel num l = xs.map (dF k)) (hl : ∀ s ∈ xs, s.length ≤ 256) (hm : xs.length ≤ 64) : dNames l num = (xs, fl0) := by
  have := dList_map1 (read := dName1) (r := fun a => a) h (fun a ha => by simp [dName1, fl0]; exact hl a ha) hm
  simpa [dNames] using this
theorem node_back {n : Nod} (h : NdOk n) : dNode (wr (nodF n)) = (n, fl0) := by
  have hl := nodF_len h
  have hd := dFields_wr (nodF_ok n) (by omega)
  have h2 := h.many
  simp only [manyN, Bool.or_eq_false_iff, decide_eq_false_iff_not] at h2
  obtain ⟨⟨⟨⟨⟨⟨⟨ho, hn⟩, hi⟩, hu⟩, li⟩, lo⟩, la⟩, -⟩ := h2
  simp only [longP, decide_eq_false_iff_not] at ho hn
  have hop : n.op.isEmpty = false := by
    have := h.bad
    simp only [badN, Bool.or_eq_false_iff] at this
    exact this.1
  have s1 : sel 1 (nodF n) = n.ins.map (dF 1) := by simp [nodF, sel_app, sel_vc, sel_dc, sel_nil, sel_d, sel_name, sel_map1, sel_map]
  have s2 : sel 2 (nodF n) = n.outs.map (dF 2) := by simp [nodF, sel_app, sel_vc, sel_dc, sel_nil, sel_d, sel_name, sel_map1, sel_map]
  have s3 : sel 3 (nodF n) = nameF 3 n.name := by simp [nodF, sel_app, sel_vc, sel_dc, sel_nil, sel_d, sel_name, sel_map1, sel_map]
  have s4 : sel 4 (nodF n) = [dF 4 n.op] := by simp [nodF, sel_app, sel_vc, sel_dc, sel_nil, sel_d, sel_name, sel_map1, sel_map]
  have s5 : sel 5 (nodF n) = n.attrs.map fun a => dF 5 (encW (attF a)) := by simp [nodF, sel_app, sel_vc, sel_dc, sel_nil, sel_d, sel_name, sel_map1, sel_map]
  have s7 : sel 7 (nodF n) = [] := by simp [nodF, sel_app, sel_vc, sel_dc, sel_nil, sel_d, sel_name, sel_map1, sel_map]
  have e5 : dList dAttr (nodF n) 5 64 = (n.attrs, fl0) := by
    have := dList_map (read := dAttr) (xs := n.attrs) (most := 64) (r := fun a => a) s5 (fun a ha => by
      have h3 := attF_len (h.att a ha)
      rw [encW_wr (attF_ok _) (by omega)]
      exact attr_back (h.att a ha)) (by omega)
    simpa using this
  unfold dNode
  rw [hd]
  have : dNodL (nodF n) = (n, fl0) := by
    unfold dNodL
    rw [dText_one s4 (by omega), dText_name s3 (by omega), dNames_of s1 (long_all hi) (by omega), dNames_of s2 (long_all hu) (by omega), e5, dText_none s7]
    dsimp only
    rw [hop]
    simp [Fl.or, fl0, flb, oursP]
  rw [this]; rfl

/-! ### values -/
structure VaOk (v : Va) : Prop where
  bad : badV v = false
  many : manyV v = false
theorem VaOk.err {v : Va} (h : VaOk v) : (cnt v.dims).2 = 0 := by
  have h1 := h.bad
  have h2 := h.many
  simp only [badV, manyV, Bool.or_eq_false_iff, decide_eq_false_iff_not] at h1 h2
  rcases cnt_err v.dims with e | e | e
  · exact e
  · exact absurd e h1.1
  · exact absurd e h2.2
theorem VaOk.known {v : Va} (h : VaOk v) : knownP v.ty = true := by
  have h1 := h.bad
  simp only [badV, Bool.or_eq_false_iff, Bool.not_eq_false'] at h1
  exact h1.2
theorem VaOk.name {v : Va} (h : VaOk v) : v.name.length ≤ 256 := by
  have h1 := h.many
  simp only [manyV, longP, Bool.or_eq_false_iff, decide_eq_false_iff_not] at h1
  omega
theorem dimF_ok (d : Int64) : WrA [vF 1 (u64 d)] := .v (by decide) (by decide) (u64_lt _)
theorem dimF_len (d : Int64) : (wr [vF 1 (u64 d)]).length ≤ 20 := by rw [wr_one]; exact wrF_v_len _ _
theorem shpF_ok (l : List Int64) : WrA (shpF l) := .map (by decide) (by decide) (fun d => encW [vF 1 (u64 d)]) l
theorem shpF_len {l : List Int64} (h : l.length ≤ 8) : (wr (shpF l)).length ≤ 320 := by
  have := wr_map_len (fun d : Int64 => dF 1 (encW [vF 1 (u64 d)])) 40 l fun d _ => by
    have h3 := dimF_len d
    rw [encW_wr (dimF_ok d) (by omega)]
    have := wrF_d_len 1 (wr [vF 1 (u64 d)]); omega
  have h2 := mul_le2 h (Nat.le_refl 40)
  unfold shpF
  omega
def tyF (v : Va) : List Fld := [vF 1 (u64 v.ty), dF 2 (wr (shpF v.dims))]
theorem tyF_ok (v : Va) : WrA (tyF v) := (WrA.v (by decide) (by decide) (u64_lt _)).app (.d (by decide) (by decide) _)
theorem tyF_len {v : Va} (h : v.dims.length ≤ 8) : (wr (tyF v)).length ≤ 360 := by
  have h1 := shpF_len h
  have h2 := wrF_v_len 1 (u64 v.ty)
  have h3 := wrF_d_len 2 (wr (shpF v.dims))
  have e : wr (tyF v) = wrF (vF 1 (u64 v.ty)) ++ wrF (dF 2 (wr (shpF v.dims))) := by simp [wr, tyF]
  rw [e, List.length_append]; omega
theorem valF_eq {v : Va} (h : v.dims.length ≤ 8) : valF v = nameF 1 v.name ++ [dF 2 (wr [dF 1 (wr (tyF v))])] ∧ (wr [dF 1 (wr (tyF v))]).length ≤ 380 := by
  have h1 := shpF_len h
  have h2 := tyF_len h
  have h3 := wrF_d_len 1 (wr (tyF v))
  have h4 : (wr [dF 1 (wr (tyF v))]).length ≤ 380 := by rw [wr_one]; omega
  refine ⟨?_, h4⟩
  unfold valF
  rw [encW_wr (shpF_ok _) (by omega)]
  have e : [vF 1 (u64 v.ty), dF 2 (wr (shpF v.dims))] = tyF v := rfl
  rw [e, encW_wr (tyF_ok _) (by omega), encW_wr (.d (by decide) (by decide) _) (by omega)]
theorem valF_ok (v : Va) : WrA (valF v) := (WrA.name (by decide) (by decide) _).app (.d (by decide) (by decide) _)
theorem valF_len {v : Va} (h : VaOk v) : (wr (valF v)).length ≤ 700 := by
  obtain ⟨h1, h2⟩ := valF_eq (cnt_len h.err)
  have h3 := h.name
  have h4 := wr_name_len 1 v.name
  have h5 := wrF_d_len 2 (wr [dF 1 (wr (tyF v))])
  rw [h1]
  simp only [wr_app, List.length_append, wr_one]
  rw [wr_one] at h2 h5
  omega
theorem dim_back (d : Int64) : dDim (encW [vF 1 (u64 d)]) = (d, fl0) := by
  have h3 := dimF_len d
  rw [encW_wr (dimF_ok d) (by omega)]
  have hd := dFields_wr (dimF_ok d) (by omega)
  have s1 : sel 1 [vF 1 (u64 d)] = [vF 1 (u64 d)] := by simp [sel_v]
  unfold dDim
  rw [hd]
  dsimp only
  rw [dNum_one s1, i64_u64]
  rfl
theorem value_back {v : Va} (h : VaOk v) : dValue (wr (valF v)) = (v, fl0) := by
  have hl := valF_len h
  have h8 := cnt_len h.err
  have hd := dFields_wr (valF_ok v) (by omega)
  obtain ⟨h1, h2⟩ := valF_eq h8
  rw [h1] at hd hl ⊢
  have h5 := tyF_len h8
  have h6 := shpF_len h8
  have d2 := dFields_wr (WrA.d (num := 1) (by decide) (by decide) (wr (tyF v))) (by omega)
  have d3 := dFields_wr (tyF_ok v) (by omega)
  have d4 := dFields_wr (shpF_ok v.dims) (by omega)
  have hname := h.name
  have e1 : dText (nameF 1 v.name ++ [dF 2 (wr [dF 1 (wr (tyF v))])]) 1 256 = (v.name, fl0) := dText_name (k := 1) (by simp [sel_app, sel_vc, sel_dc, sel_nil, sel_name, sel_d]) (by omega)
  have e2 : dMsg (nameF 1 v.name ++ [dF 2 (wr [dF 1 (wr (tyF v))])]) 2 = ((wr [dF 1 (wr (tyF v))], true), fl0) := dMsg_one (k := 2) (by simp [sel_app, sel_vc, sel_dc, sel_nil, sel_name, sel_d])
  have e3 : dMsg [dF 1 (wr (tyF v))] 1 = ((wr (tyF v), true), fl0) := dMsg_one (k := 1) (by simp [sel_d])
  have e4 : dNum (tyF v) 1 = ((v.ty, true), fl0) := by
    have s : sel 1 (tyF v) = [vF 1 (u64 v.ty)] := by
      have : tyF v = [vF 1 (u64 v.ty)] ++ [dF 2 (wr (shpF v.dims))] := rfl
      rw [this]; simp [sel_app, sel_vc, sel_dc, sel_nil]
    rw [dNum_one s, i64_u64]
  have e5 : dMsg (tyF v) 2 = ((wr (shpF v.dims), true), fl0) := dMsg_one (k := 2) (by
    have : tyF v = [vF 1 (u64 v.ty)] ++ [dF 2 (wr (shpF v.dims))] := rfl
    rw [this]; simp [sel_app, sel_vc, sel_dc, sel_nil])
  have e6 : dList dDim (shpF v.dims) 1 (shpF v.dims).length = (v.dims, fl0) := by
    have := dList_map (read := dDim) (l := shpF v.dims) (num := 1) (k := 1) (most := (shpF v.dims).length) (xs := v.dims) (g := fun d => encW [vF 1 (u64 d)]) (r := fun d => d) (by unfold shpF; rw [sel_map]; simp) (fun d _ => dim_back d) (by simp [shpF])
    simpa using this
  have e7 : dDims v.dims = (((cnt v.dims).1, true), fl0) := by unfold dDims; rw [h.err]; rfl
  have e8 : dTyL (tyF v) = ((v.ty, v.dims), fl0) := by
    unfold dTyL
    rw [e4, e5]
    dsimp only
    rw [d4]
    dsimp only
    rw [e6, e7, h.known]
    simp [Fl.or, fl0]
  unfold dValue
  rw [hd]
  have : dValL (nameF 1 v.name ++ [dF 2 (wr [dF 1 (wr (tyF v))])]) = (v, fl0) := by
    unfold dValL
    rw [e1, e2]
    dsimp only
    rw [d2]
    dsimp only
    rw [e3]
    dsimp only
    rw [d3]
    dsimp only
    rw [e8]
    simp [Fl.or, fl0]
  rw [this]; rfl

/-! ### models -/
structure MoOk (m : Mo) : Prop where
  bad : badM m = false
  many : manyM false m = false
theorem MoOk.of {m : Mo} (h : chk false m = 0) : MoOk m := by
  unfold chk at h
  split at h
  · simp at h
  · rename_i h1
    split at h
    · simp at h
    · rename_i h2
      exact ⟨by simpa using h1, by simpa using h2⟩
theorem graF_ok (m : Mo) : WrA (graF m) := by
  unfold graF
  refine WrA.app (WrA.app (WrA.app (WrA.app ?_ ?_) ?_) ?_) ?_
  · exact WrA.map (by decide) (by decide) (fun n => encW (nodF n)) m.nodes
  · exact WrA.name (by decide) (by decide) _
  · exact WrA.map (by decide) (by decide) (fun c : Ini => encW (tenF c.name c.t)) m.inits
  · exact WrA.map (by decide) (by decide) (fun v => encW (valF v)) m.inputs
  · exact WrA.map (by decide) (by decide) (fun v => encW (valF v)) m.outputs
structure MoOk' (m : Mo) : Prop where
  op : m.opset = 17
  nm : m.name.length ≤ 256
  nod : ∀ n ∈ m.nodes, NdOk n
  ini : ∀ c ∈ m.inits, TnOk c.t ∧ c.name.length ≤ 256
  inp : ∀ v ∈ m.inputs, VaOk v
  out : ∀ v ∈ m.outputs, VaOk v
  l1 : m.nodes.length ≤ 1024
  l2 : m.inits.length ≤ 1024
  l3 : m.inputs.length ≤ 64
  l4 : m.outputs.length ≤ 64
theorem MoOk.ok {m : Mo} (h : MoOk m) : MoOk' m := by
  have h1 := h.bad
  have h2 := h.many
  simp only [badM, manyM, Bool.or_eq_false_iff, decide_eq_false_iff_not, List.any_eq_false, Bool.not_eq_false', decide_eq_true_eq] at h1 h2
  obtain ⟨⟨⟨⟨a1, a2⟩, a3⟩, a4⟩, a5⟩ := h1
  obtain ⟨⟨⟨⟨⟨⟨⟨⟨b1, b2⟩, b3⟩, b4⟩, b5⟩, b6⟩, b7⟩, b8⟩, b9⟩ := h2
  refine ⟨a1, by simpa [longP] using b3, fun n hn => ⟨by simpa using a2 n hn, by simpa using b4 n hn⟩, fun c hc => ?_, fun v hv => ⟨by simpa using a4 v hv, by simpa using b7 v hv⟩, fun v hv => ⟨by simpa using a5 v hv, by simpa using b9 v hv⟩, by omega, by omega, by omega, by omega⟩
  have c1 := a3 c hc
  have c2 := b5 c hc
  simp only [badC, manyC, Bool.or_eq_true, not_or, Bool.not_eq_true] at c1 c2
  exact ⟨TnOk.of c1 c2.2, by simpa [longP] using c2.1⟩
theorem graL_back {m : Mo} (h : MoOk' m) {l : List Fld} (hs : ∀ num : Int, num = 1 ∨ num = 2 ∨ num = 5 ∨ num = 11 ∨ num = 12 ∨ num = 15 → sel num l = sel num (graF m)) : dGraL l = (m, fl0) := by
  have s1 : sel 1 l = m.nodes.map fun n => dF 1 (encW (nodF n)) := by rw [hs 1 (by simp)]; simp [graF, sel_app, sel_vc, sel_dc, sel_nil, sel_name, sel_map]
  have s2 : sel 2 l = nameF 2 m.name := by rw [hs 2 (by simp)]; simp [graF, sel_app, sel_vc, sel_dc, sel_nil, sel_name, sel_map]
  have s5 : sel 5 l = m.inits.map fun c => dF 5 (encW (tenF c.name c.t)) := by rw [hs 5 (by simp)]; simp [graF, sel_app, sel_vc, sel_dc, sel_nil, sel_name, sel_map]
  have s11 : sel 11 l = m.inputs.map fun v => dF 11 (encW (valF v)) := by rw [hs 11 (by simp)]; simp [graF, sel_app, sel_vc, sel_dc, sel_nil, sel_name, sel_map]
  have s12 : sel 12 l = m.outputs.map fun v => dF 12 (encW (valF v)) := by rw [hs 12 (by simp)]; simp [graF, sel_app, sel_vc, sel_dc, sel_nil, sel_name, sel_map]
  have s15 : sel 15 l = [] := by rw [hs 15 (by simp)]; simp [graF, sel_app, sel_vc, sel_dc, sel_nil, sel_name, sel_map]
  have e1 : dList dNode l 1 1024 = (m.nodes, fl0) := by
    have := dList_map (read := dNode) (r := fun a => a) s1 (fun n hn => by
      have h3 := nodF_len (h.nod n hn)
      rw [encW_wr (nodF_ok _) (by omega)]
      exact node_back (h.nod n hn)) h.l1
    simpa using this
  have e5 : dList dTensor l 5 1024 = (m.inits, fl0) := by
    have := dList_map (read := dTensor) (r := fun a => a) s5 (fun c hc => by
      have h3 := tenF_len (h.ini c hc).1 (h.ini c hc).2
      rw [encW_wr (tenF_ok _ _) (by omega)]
      exact tensor_back (h.ini c hc).1 (h.ini c hc).2) h.l2
    simpa using this
  have e11 : dList dValue l 11 64 = (m.inputs, fl0) := by
    have := dList_map (read := dValue) (r := fun a => a) s11 (fun v hv => by
      have h3 := valF_len (h.inp v hv)
      rw [encW_wr (valF_ok _) (by omega)]
      exact value_back (h.inp v hv)) h.l3
    simpa using this
  have e12 : dList dValue l 12 64 = (m.outputs, fl0) := by
    have := dList_map (read := dValue) (r := fun a => a) s12 (fun v hv => by
      have h3 := valF_len (h.out v hv)
      rw [encW_wr (valF_ok _) (by omega)]
      exact value_back (h.out v hv)) h.l4
    simpa using this
  unfold dGraL
  rw [dText_name s2 h.nm, e1, e5, e11, e12, dList_none s15]
  obtain ⟨op, nm, n, c, i, o⟩ := m
  have := h.op
  dsimp only at *
  rw [this]
  simp [Fl.or, fl0]
theorem set_bytes : encW [vF 2 17] = [16, 17] := by decide
theorem own_set : dOwn [16, 17] = ((true, 17), fl0) := by
  have hb : writeE [vF 2 17] = ([16, 17], 0) := by decide
  have hd := dFields_of (WrA.v (by decide) (by decide) (by decide)) hb
  unfold dOwn
  rw [hd]
  dsimp only
  rw [dText_none (by simp [sel_v]), dNum_one (k := 2) (x := 17) (by simp [sel_v])]
  have : i64 17 = 17 := by decide
  dsimp only
  rw [this]
  rfl
/-- what decodes as the model -/
theorem back_of {m : Mo} {c g : List UInt8} {l : List Fld} {lg : List Fld} (h : MoOk' m) (hl : c.length ≤ 4194304) (hc : dFields c = (l, fl0)) (h1 : (dNum l 1).2 = fl0) (h7 : dMsg l 7 = ((g, true), fl0)) (hg : dFields g = (lg, fl0))
    (hs : ∀ num : Int, num = 1 ∨ num = 2 ∨ num = 5 ∨ num = 11 ∨ num = 12 ∨ num = 15 → sel num lg = sel num (graF m)) (h8 : dFits l = (true, fl0)) : decM c = (m, 0) := by
  have e1 : dGraph g = (m, fl0) := by unfold dGraph; rw [hg, graL_back h hs]; rfl
  have e2 : dModL l = (m, fl0) := by
    unfold dModL
    rw [h7]
    dsimp only
    rw [e1, h8, h1]
    rfl
  have e3 : dModel c = (m, fl0) := by unfold dModel; rw [hc, e2]; rfl
  unfold decM
  rw [if_neg (by omega), e3]
  rfl
structure EncOk (m : Mo) (b : List UInt8) : Prop where
  ok : MoOk' m
  chk : chk false m = 0
  gra : writeE (graF m) = (wr (graF m), 0)
  top : writeE [vF 1 8, dF 7 (wr (graF m)), dF 8 [16, 17]] = (b, 0)
theorem enc_ok {m : Mo} {b : List UInt8} (h : encM m = (b, 0)) : EncOk m b := by
  unfold encM at h
  split at h
  · rename_i h1; injection h with h2 h3; exact absurd h3 h1
  · rename_i h1
    have h0 : chk false m = 0 := Classical.not_not.1 h1
    split at h
    · rename_i h2; injection h with h3 h4; exact absurd h4 h2
    · rename_i h2
      have hw : writeE (graF m) = (wr (graF m), 0) := by
        unfold writeE at h2 ⊢
        rw [if_pos (List.all_eq_true.2 fun f hf => (graF_ok m f hf).1)] at h2 ⊢
        split at h2
        · simp at h2
        · rename_i h5; rw [if_neg h5]
      have he : encW (graF m) = wr (graF m) := by unfold encW; rw [hw]
      rw [he, set_bytes] at h
      exact ⟨(MoOk.of h0).ok, h0, hw, h⟩
theorem top_ok (g s : List UInt8) : WrA [vF 1 8, dF 7 g, dF 8 s] :=
  ((WrA.v (num := 1) (by decide) (by decide) (by decide)).app (.d (num := 7) (by decide) (by decide) g)).app (.d (num := 8) (by decide) (by decide) s)
theorem write_short {fs : List Fld} {b : List UInt8} (h : writeE fs = (b, 0)) : b.length ≤ 4194304 := by
  unfold writeE at h
  split at h
  · split at h
    · simp at h
    · rename_i h1
      simp at h
      rw [← h]; omega
  · simp at h
theorem enc_back {m : Mo} {b : List UInt8} (h : encM m = (b, 0)) : decM b = (m, 0) := by
  obtain ⟨h1, h2, h3, h4⟩ := enc_ok h
  refine back_of (g := wr (graF m)) (lg := graF m) h1 (write_short h4) (dFields_of (top_ok _ _) h4) ?_ ?_ (dFields_of (graF_ok m) h3) (fun _ _ => rfl) ?_
  · rw [dNum_one (k := 1) (x := 8) (by simp [sel, vF, dF])]
  · exact dMsg_one (k := 7) (by simp [sel, vF, dF])
  · unfold dFits
    have := dList_map (read := dOwn) (l := [vF 1 8, dF 7 (wr (graF m)), dF 8 [16, 17]]) (num := 8) (k := 8) (most := [vF 1 8, dF 7 (wr (graF m)), dF 8 [16, 17]].length) (xs := [()]) (g := fun _ => [16, 17]) (r := fun _ => (true, 17)) (by simp [sel, vF, dF]) (fun _ _ => own_set) (by simp)
    rw [this]
    rfl
end Go.Proofs.YtlhpmlknmgocoaaGreat

/- What is decoded may be encoded: plain laws. No program in sight. -/
namespace Go.Proofs.YtlhpmlknmgocoaaGreat
set_option linter.unusedSimpArgs false
set_option linter.unusedVariables false
open Go.RowKit

theorem or_fl0 {a b : Fl} (h : a.or b = fl0) : a = fl0 ∧ b = fl0 := by
  obtain ⟨a1, a2, a3⟩ := a
  obtain ⟨b1, b2, b3⟩ := b
  simp only [Fl.or, fl0, Fl.mk.injEq, Bool.or_eq_false_iff] at h ⊢
  obtain ⟨⟨h1, h2⟩, ⟨h3, h4⟩, h5, h6⟩ := h
  exact ⟨⟨h1, h3, h5⟩, h2, h4, h6⟩
theorem flb_fl0 {c : Bool} (h : flb c = fl0) : c = false := by
  simp only [flb, fl0, Fl.mk.injEq] at h
  exact h.1
theorem fl3 {a b c : Bool} (h : (⟨a, b, c⟩ : Fl) = fl0) : a = false ∧ b = false ∧ c = false := by
  simp only [fl0, Fl.mk.injEq] at h
  exact h
theorem dText_ok {l : List Fld} {num : Int} {most : Nat} (h : (dText l num most).2 = fl0) : (dText l num most).1.length ≤ most := by
  have := (fl3 (a := !decide ((lastF 2 (sel num l)).2.2 = 0)) (b := false) (c := decide (most < (lastF 2 (sel num l)).1.data.length)) h).2.2
  simp only [decide_eq_false_iff_not] at this
  show (lastF 2 (sel num l)).1.data.length ≤ most
  omega
theorem dList_ok {α : Type} {read : List UInt8 → α × Fl} {l : List Fld} {num : Int} {most : Nat} (h : (dList read l num most).2 = fl0) :
    (∀ x ∈ (dList read l num most).1, ∃ b, x = (read b).1 ∧ (read b).2 = fl0) ∧ (dList read l num most).1.length ≤ most := by
  unfold dList at h ⊢
  dsimp only at h ⊢
  obtain ⟨h1, h2⟩ := or_fl0 h
  obtain ⟨h3, -⟩ := or_fl0 h1
  have h4 := (fl3 h2).2.2
  simp only [decide_eq_false_iff_not] at h4
  refine ⟨fun x hx => ?_, by rw [List.length_map]; omega⟩
  obtain ⟨f, hf, rfl⟩ := List.mem_map.1 hx
  refine ⟨f.data, rfl, ?_⟩
  obtain ⟨e1, e2, e3⟩ := fl3 (by simpa only [Fl.all] using h3)
  rw [List.any_eq_false] at e1 e2 e3
  have hm : (read f.data).2 ∈ (sel num l).map fun f => (read f.data).2 := List.mem_map.2 ⟨f, hf, rfl⟩
  have g1 := e1 _ hm
  have g2 := e2 _ hm
  have g3 := e3 _ hm
  generalize (read f.data).2 = r at *
  obtain ⟨r1, r2, r3⟩ := r
  simp at g1 g2 g3
  simp [fl0, g1, g2, g3]
theorem cutN_len (w : Nat) : ∀ (n : Nat) (b : List UInt8), (cutN w n b).length = n
  | 0, _ => rfl
  | n + 1, b => by simp [cutN, cutN_len w n]
theorem dDims_ok {l : List Int64} (h : (dDims l).2 = fl0) : (cnt l).2 = 0 := by
  obtain ⟨h1, -, h2⟩ := fl3 (a := decide ((cnt l).2 = 1)) (b := false) (c := decide ((cnt l).2 = 8)) h
  simp only [decide_eq_false_iff_not] at h1 h2
  rcases cnt_err l with e | e | e
  · exact e
  · exact absurd e h1
  · exact absurd e h2
theorem TnOk.bad {t : Tn} (h : TnOk t) : badT t = false := by
  have hk : knownP t.ty = true := by rcases h.ty with e | e | e <;> rw [e] <;> decide
  simp [badT, hk, h.err, h.want]
theorem TnOk.many {t : Tn} (h : TnOk t) (r : Bool) : manyT r t = false := by simp [manyT, h.err]
theorem rawP_ok {ty : Int64} {dims : List Int64} {b : List UInt8} (hty : ty = 1 ∨ ty = 7 ∨ ty = 9) (he : (cnt dims).2 = 0) (h : (rawP ty dims (cnt dims).1.toNat b).2 = true) : TnOk (rawP ty dims (cnt dims).1.toNat b).1 := by
  have hv := (cnt_val dims).1
  unfold rawP at h ⊢
  split at h
  · simp at h
  · rename_i hl
    rw [if_neg hl]
    rcases hty with rfl | rfl | rfl
    · rw [if_pos rfl]
      refine ⟨.inl rfl, he, ?_⟩
      simp [wantT, cutN_len]; omega
    · have e7 : ¬ ((7 : Int64) = 1) := by decide
      rw [if_neg e7, if_pos rfl]
      refine ⟨.inr (.inl rfl), he, ?_⟩
      simp [wantT, cutN_len]; omega
    · have e9 : ¬ ((9 : Int64) = 1) := by decide
      have e9' : ¬ ((9 : Int64) = 7) := by decide
      rw [if_neg e9, if_neg e9']
      refine ⟨.inr (.inr rfl), he, ?_⟩
      simp [wantT, cutN_len]; omega
theorem known_cases {k : Int64} (h : knownP k = true) : k = 1 ∨ k = 7 ∨ k = 9 := by
  simp only [knownP, Bool.or_eq_true, decide_eq_true_eq] at h
  rcases h with (h | h) | h
  · exact .inl h
  · exact .inr (.inl h)
  · exact .inr (.inr h)
theorem tensor_ok {b : List UInt8} (h : (dTensor b).2 = fl0) : TnOk (dTensor b).1.t ∧ (dTensor b).1.name.length ≤ 256 := by
  unfold dTensor at h ⊢
  dsimp only at h ⊢
  replace h := (or_fl0 h).2
  generalize (dFields b).1 = l at *
  unfold dTenL at h ⊢
  dsimp only at h ⊢
  by_cases hc : (!(dDims (dInts l 1).1).1.2 || !knownP (dNum l 2).1.1) = true
  · exfalso
    rw [if_pos hc] at h
    dsimp only at h
    obtain ⟨a1, h⟩ := or_fl0 h
    obtain ⟨a2, h⟩ := or_fl0 h
    obtain ⟨a3, h⟩ := or_fl0 h
    obtain ⟨a4, h⟩ := or_fl0 h
    obtain ⟨a5, h⟩ := or_fl0 h
    obtain ⟨a6, h⟩ := or_fl0 h
    obtain ⟨a7, -⟩ := or_fl0 h
    have he := dDims_ok a3
    obtain ⟨b1, b2, -⟩ := fl3 a7
    simp only [Bool.or_eq_false_iff] at b2
    have hz : (dDims (dInts l 1).1).1.2 = true := by simp [dDims, he]
    rw [hz] at hc
    have b3 := b2.1.1
    rw [b1] at b3
    simp at hc b3
    rw [hc] at b3
    cases b3
  · rw [if_neg hc] at h ⊢
    simp only [Bool.not_eq_true, Bool.or_eq_false_iff, Bool.not_eq_false'] at hc
    have hkn := known_cases hc.2
    have main : ∀ {x : Ini} {c : Fl} (fl : Fl), (dText l 8 256).2.or ((dInts l 1).2.or ((dDims (dInts l 1).1).2.or c)) = fl0 → x.name = (dText l 8 256).1 → x.name.length ≤ 256 ∧ (cnt (dInts l 1).1).2 = 0 := by
      intro x c _ h hx
      obtain ⟨a1, h⟩ := or_fl0 h
      obtain ⟨a2, h⟩ := or_fl0 h
      obtain ⟨a3, h⟩ := or_fl0 h
      exact ⟨by rw [hx]; exact dText_ok a1, dDims_ok a3⟩
    have hn : (dDims (dInts l 1).1).1.1 = (cnt (dInts l 1).1).1 := rfl
    rw [hn] at h ⊢
    split at h
    · rename_i hr
      rw [if_pos hr]
      split at h
      · rename_i hk
        rw [if_pos hk]
        obtain ⟨h1, h2⟩ := or_fl0 h
        obtain ⟨m1, m2⟩ := main (x := ⟨(dText l 8 256).1, tn0⟩) fl0 h1 rfl
        have h3 := flb_fl0 h2
        simp only [Bool.or_eq_false_iff, Bool.not_eq_false', decide_eq_true_eq] at h3
        exact ⟨⟨.inl hk, m2, by simp [wantT, hk, h3.2]⟩, m1⟩
      · rename_i hk
        rw [if_neg hk]
        split at h
        · rename_i hk7
          rw [if_pos hk7]
          obtain ⟨h1, h2⟩ := or_fl0 h
          obtain ⟨m1, m2⟩ := main (x := ⟨(dText l 8 256).1, tn0⟩) fl0 h1 rfl
          have h3 := flb_fl0 h2
          simp only [Bool.or_eq_false_iff, Bool.not_eq_false', decide_eq_true_eq] at h3
          exact ⟨⟨.inr (.inl hk7), m2, by simp [wantT, hk7, h3.2]⟩, m1⟩
        · rename_i hk7
          rw [if_neg hk7]
          have hk9 : (dNum l 2).1.1 = 9 := by rcases hkn with e | e | e; exact absurd e hk; exact absurd e hk7; exact e
          obtain ⟨h1, h2⟩ := or_fl0 h
          obtain ⟨m1, m2⟩ := main (x := ⟨(dText l 8 256).1, tn0⟩) fl0 h1 rfl
          have h3 := flb_fl0 h2
          simp only [Bool.or_eq_false_iff, Bool.not_eq_false', decide_eq_true_eq] at h3
          exact ⟨⟨.inr (.inr hk9), m2, by simp [wantT, hk9, h3.1.2]⟩, m1⟩
    · rename_i hr
      rw [if_neg hr]
      split at h
      · obtain ⟨h1, h2⟩ := or_fl0 h
        have := flb_fl0 h2
        cases this
      · rename_i hs
        rw [if_neg hs]
        obtain ⟨h1, h2⟩ := or_fl0 h
        obtain ⟨m1, m2⟩ := main (x := ⟨(dText l 8 256).1, tn0⟩) fl0 h1 rfl
        have h3 := flb_fl0 h2
        simp only [Bool.not_eq_false'] at h3
        exact ⟨rawP_ok hkn m2 h3, m1⟩
theorem tn0_none : noneT tn0 = true := by decide
theorem attr_ok {b : List UInt8} (h : (dAttr b).2 = fl0) : AtOk (dAttr b).1 := by
  unfold dAttr at h ⊢
  dsimp only at h ⊢
  replace h := (or_fl0 h).2
  generalize (dFields b).1 = l at *
  unfold dAttL at h ⊢
  dsimp only at h ⊢
  generalize hc : (if (dMsg l 5).1.2 = true then dTensor (dMsg l 5).1.1 else (⟨[], tn0⟩, fl0)) = c at *
  have main : ∀ {z : Fl}, ((dText l 1 256).2.or ((flb (!decide ((lastF 5 (sel 2 l)).2.2 = 0))).or ((dNum l 3).2.or ((dText l 4 4096).2.or ((dMsg l 5).2.or (c.2.or ((dFloats l 7).2.or ((dInts l 8).2.or (Fl.or ⟨false, false, decide (4096 < (dFloats l 7).1.length) || decide (4096 < (dInts l 8).1.length)⟩ z))))))))) = fl0 →
      (dText l 1 256).1.length ≤ 256 ∧ (dText l 4 4096).1.length ≤ 4096 ∧ c.2 = fl0 ∧ (dFloats l 7).1.length ≤ 4096 ∧ (dInts l 8).1.length ≤ 4096 := by
    intro z h
    obtain ⟨a1, h⟩ := or_fl0 h
    obtain ⟨a2, h⟩ := or_fl0 h
    obtain ⟨a3, h⟩ := or_fl0 h
    obtain ⟨a4, h⟩ := or_fl0 h
    obtain ⟨a5, h⟩ := or_fl0 h
    obtain ⟨a6, h⟩ := or_fl0 h
    obtain ⟨a7, h⟩ := or_fl0 h
    obtain ⟨a8, h⟩ := or_fl0 h
    obtain ⟨a9, h⟩ := or_fl0 h
    have a10 := (fl3 a9).2.2
    simp only [Bool.or_eq_false_iff, decide_eq_false_iff_not] at a10
    exact ⟨dText_ok a1, dText_ok a4, a6, by omega, by omega⟩
  generalize (dNum l 20).1.1 = kind at *
  by_cases h0 : kind = 0
  · rw [if_pos h0] at h
    have := flb_fl0 (or_fl0 h).2
    cases this
  rw [if_neg h0] at h ⊢
  by_cases h1 : kind = 1
  · rw [if_pos h1] at h ⊢
    obtain ⟨m1, m2, m3, m4, m5⟩ := main h
    subst h1
    exact ⟨by simp [badA, kindP, tn0_none], by simp [manyA, longP]; omega⟩
  rw [if_neg h1] at h ⊢
  by_cases h2 : kind = 2
  · rw [if_pos h2] at h ⊢
    obtain ⟨m1, m2, m3, m4, m5⟩ := main h
    subst h2
    exact ⟨by simp [badA, kindP, tn0_none], by simp [manyA, longP]; omega⟩
  rw [if_neg h2] at h ⊢
  by_cases h3 : kind = 3
  · rw [if_pos h3] at h ⊢
    obtain ⟨m1, m2, m3, m4, m5⟩ := main h
    subst h3
    exact ⟨by simp [badA, kindP, tn0_none], by simp [manyA, longP]; omega⟩
  rw [if_neg h3] at h ⊢
  by_cases h4 : kind = 4
  · rw [if_pos h4] at h ⊢
    obtain ⟨h5, h6⟩ := or_fl0 h
    obtain ⟨m1, m2, m3, m4, m5⟩ := main h5
    have h7 := flb_fl0 h6
    simp only [Bool.not_eq_false'] at h7
    rw [if_pos h7] at hc
    have ht := (tensor_ok (b := (dMsg l 5).1.1) (by rw [hc]; exact m3)).1
    rw [hc] at ht
    subst h4
    exact ⟨by simp [badA, kindP, ht.bad], by simp [manyA, longP, ht.many]; omega⟩
  rw [if_neg h4] at h ⊢
  by_cases h6 : kind = 6
  · rw [if_pos h6] at h ⊢
    obtain ⟨m1, m2, m3, m4, m5⟩ := main h
    subst h6
    exact ⟨by simp [badA, kindP, tn0_none], by simp [manyA, longP]; omega⟩
  rw [if_neg h6] at h ⊢
  by_cases h7 : kind = 7
  · rw [if_pos h7] at h ⊢
    obtain ⟨m1, m2, m3, m4, m5⟩ := main h
    subst h7
    exact ⟨by simp [badA, kindP, tn0_none], by simp [manyA, longP]; omega⟩
  rw [if_neg h7] at h
  have := (fl3 (or_fl0 h).2).2.1
  cases this
theorem names_ok {l : List Fld} {num : Int} (h : (dNames l num).2 = fl0) : (dNames l num).1.any longP = false ∧ (dNames l num).1.length ≤ 64 := by
  unfold dNames at h ⊢
  obtain ⟨h1, h2⟩ := dList_ok h
  refine ⟨?_, h2⟩
  rw [List.any_eq_false]
  intro s hs
  obtain ⟨b, rfl, hb⟩ := h1 s hs
  have := (fl3 hb).2.2
  simpa [longP, dName1] using this
theorem node_ok {b : List UInt8} (h : (dNode b).2 = fl0) : NdOk (dNode b).1 := by
  unfold dNode at h ⊢
  dsimp only at h ⊢
  replace h := (or_fl0 h).2
  generalize (dFields b).1 = l at *
  unfold dNodL at h ⊢
  dsimp only at h ⊢
  obtain ⟨a1, h⟩ := or_fl0 h
  obtain ⟨a2, h⟩ := or_fl0 h
  obtain ⟨a3, h⟩ := or_fl0 h
  obtain ⟨a4, h⟩ := or_fl0 h
  obtain ⟨a5, h⟩ := or_fl0 h
  obtain ⟨a6, -⟩ := or_fl0 h
  have b1 := dText_ok a1
  have b2 := dText_ok a2
  obtain ⟨b3, c3⟩ := names_ok a3
  obtain ⟨b4, c4⟩ := names_ok a4
  obtain ⟨b5, c5⟩ := dList_ok a5
  have hat : ∀ x ∈ (dList dAttr l 5 64).1, AtOk x := fun x hx => by
    obtain ⟨bb, rfl, hb⟩ := b5 x hx
    exact attr_ok hb
  have b6 := flb_fl0 a6
  have d1 : (dList dAttr l 5 64).1.any badA = false := by
    rw [List.any_eq_false]; intro x hx; simpa using (hat x hx).bad
  have d2 : (dList dAttr l 5 64).1.any (manyA false) = false := by
    rw [List.any_eq_false]; intro x hx; simpa using (hat x hx).many
  exact ⟨by simp only [badN, b6, d1]; rfl, by simp [manyN, longP, b3, b4, d2]; omega⟩
theorem dTyL_ok {f : List Fld} (h : (dTyL f).2 = fl0) : knownP (dTyL f).1.1 = true ∧ (cnt (dTyL f).1.2).2 = 0 := by
  unfold dTyL at h ⊢
  dsimp only at h ⊢
  split at h
  · rename_i hs
    rw [if_pos hs]
    obtain ⟨h1, h2⟩ := or_fl0 h
    obtain ⟨-, h3⟩ := or_fl0 h2
    obtain ⟨-, h4⟩ := or_fl0 h3
    obtain ⟨-, h5⟩ := or_fl0 h1
    obtain ⟨-, h6⟩ := or_fl0 h5
    have h7 := (fl3 h6).2.1
    simp only [Bool.or_eq_false_iff, Bool.not_eq_false'] at h7
    exact ⟨h7.1, dDims_ok h4⟩
  · rename_i hs
    obtain ⟨-, h5⟩ := or_fl0 h
    obtain ⟨-, h6⟩ := or_fl0 h5
    have h7 := (fl3 h6).2.1
    simp only [Bool.or_eq_false_iff, Bool.not_eq_false'] at h7
    exact absurd h7.2 hs
theorem value_ok {b : List UInt8} (h : (dValue b).2 = fl0) : VaOk (dValue b).1 := by
  unfold dValue at h ⊢
  dsimp only at h ⊢
  replace h := (or_fl0 h).2
  generalize (dFields b).1 = l at *
  unfold dValL at h ⊢
  dsimp only at h ⊢
  split at h
  · have := flb_fl0 (or_fl0 h).2
    cases this
  · rename_i h1
    rw [if_neg h1]
    split at h
    · have := (fl3 (or_fl0 h).2).2.1
      cases this
    · rename_i h2
      rw [if_neg h2]
      dsimp only at h ⊢
      obtain ⟨h3, h4⟩ := or_fl0 h
      obtain ⟨-, h5⟩ := or_fl0 h4
      obtain ⟨h6, -⟩ := or_fl0 h3
      obtain ⟨h7, -⟩ := or_fl0 h6
      have b1 := dText_ok h7
      obtain ⟨b2, b3⟩ := dTyL_ok h5
      exact ⟨by simp [badV, b2, b3], by simp [manyV, longP, b3]; omega⟩
theorem graL_ok {l : List Fld} (h : (dGraL l).2 = fl0) : chk false (dGraL l).1 = 0 ∧ (dGraL l).1.opset = 17 := by
  unfold dGraL at h ⊢
  dsimp only at h ⊢
  obtain ⟨a1, h⟩ := or_fl0 h
  obtain ⟨a2, h⟩ := or_fl0 h
  obtain ⟨a3, h⟩ := or_fl0 h
  obtain ⟨a4, h⟩ := or_fl0 h
  obtain ⟨a5, h⟩ := or_fl0 h
  have b1 := dText_ok a1
  obtain ⟨b2, c2⟩ := dList_ok a2
  obtain ⟨b3, c3⟩ := dList_ok a3
  obtain ⟨b4, c4⟩ := dList_ok a4
  obtain ⟨b5, c5⟩ := dList_ok a5
  have n2 : ∀ x ∈ (dList dNode l 1 1024).1, NdOk x := fun x hx => by obtain ⟨bb, rfl, hb⟩ := b2 x hx; exact node_ok hb
  have n3 : ∀ x ∈ (dList dTensor l 5 1024).1, TnOk x.t ∧ x.name.length ≤ 256 := fun x hx => by obtain ⟨bb, rfl, hb⟩ := b3 x hx; exact tensor_ok hb
  have n4 : ∀ x ∈ (dList dValue l 11 64).1, VaOk x := fun x hx => by obtain ⟨bb, rfl, hb⟩ := b4 x hx; exact value_ok hb
  have n5 : ∀ x ∈ (dList dValue l 12 64).1, VaOk x := fun x hx => by obtain ⟨bb, rfl, hb⟩ := b5 x hx; exact value_ok hb
  generalize (dList dNode l 1 1024).1 = L2 at *
  generalize (dList dTensor l 5 1024).1 = L3 at *
  generalize (dList dValue l 11 64).1 = L4 at *
  generalize (dList dValue l 12 64).1 = L5 at *
  generalize (dText l 2 256).1 = nm at *
  have e1 : L2.any badN = false := by rw [List.any_eq_false]; intro x hx; simpa using (n2 x hx).bad
  have e2 : L2.any (manyN false) = false := by rw [List.any_eq_false]; intro x hx; simpa using (n2 x hx).many
  have e3 : L3.any badC = false := by rw [List.any_eq_false]; intro x hx; simpa [badC] using (n3 x hx).1.bad
  have e4 : L3.any (manyC false) = false := by rw [List.any_eq_false]; intro x hx; simpa [manyC, longP, (n3 x hx).1.many] using (n3 x hx).2
  have e5 : L4.any badV = false := by rw [List.any_eq_false]; intro x hx; simpa using (n4 x hx).bad
  have e6 : L4.any manyV = false := by rw [List.any_eq_false]; intro x hx; simpa using (n4 x hx).many
  have e7 : L5.any badV = false := by rw [List.any_eq_false]; intro x hx; simpa using (n5 x hx).bad
  have e8 : L5.any manyV = false := by rw [List.any_eq_false]; intro x hx; simpa using (n5 x hx).many
  refine ⟨?_, rfl⟩
  have f1 : badM ⟨17, nm, L2, L3, L4, L5⟩ = false := by simp only [badM, e1, e3, e5, e7]; decide
  have f2 : manyM false ⟨17, nm, L2, L3, L4, L5⟩ = false := by
    simp only [manyM, e2, e4, e6, e8, longP]
    simp; omega
  simp only [chk, f1, f2]; rfl
/-- what decodes may be encoded -/
theorem dec_ok {b : List UInt8} {m : Mo} (h : decM b = (m, 0)) : chk false m = 0 ∧ m.opset = 17 := by
  unfold decM at h
  split at h
  · injection h with h1 h2; cases h2
  · split at h
    · rename_i he
      injection h with h1 h2
      subst h1
      have hf : (dModel b).2 = fl0 := by
        unfold errP at he
        split at he
        · cases he
        · split at he
          · cases he
          · split at he
            · cases he
            · rename_i h1 h2 h3
              generalize (dModel b).2 = f at *
              obtain ⟨f1, f2, f3⟩ := f
              simp at h1 h2 h3
              simp [fl0, h1, h2, h3]
      unfold dModel at hf ⊢
      dsimp only at hf ⊢
      replace hf := (or_fl0 hf).2
      unfold dModL at hf ⊢
      dsimp only at hf ⊢
      obtain ⟨-, hf⟩ := or_fl0 hf
      obtain ⟨-, hf⟩ := or_fl0 hf
      obtain ⟨-, hf⟩ := or_fl0 hf
      obtain ⟨hf, -⟩ := or_fl0 hf
      unfold dGraph at hf ⊢
      dsimp only at hf ⊢
      exact graL_ok (or_fl0 hf).2
    · rename_i he
      injection h with h1 h2
      exact absurd h2 he
/-- what encoding answers of a model that may be written -/
theorem enc_err {m : Mo} (h : (encM m).2 ≠ 0) : (encM m).1 = [] ∧ ((encM m).2 = chk false m ∨ (chk false m = 0 ∧ (encM m).2 = 8)) := by
  have hw : ∀ {fs : List Fld}, WrA fs → (writeE fs).2 ≠ 0 → (writeE fs).1 = [] ∧ (writeE fs).2 = 8 := by
    intro fs hfs
    unfold writeE
    rw [if_pos (List.all_eq_true.2 fun f hf => (hfs f hf).1)]
    split
    · intro _; exact ⟨rfl, rfl⟩
    · intro h; exact absurd rfl h
  unfold encM at h ⊢
  split at h
  · rename_i h1
    rw [if_pos h1]
    exact ⟨rfl, .inl rfl⟩
  · rename_i h1
    rw [if_neg h1]
    have h0 : chk false m = 0 := Classical.not_not.1 h1
    split at h
    · rename_i h2
      rw [if_pos h2]
      exact ⟨rfl, .inr ⟨h0, (hw (graF_ok m) h2).2⟩⟩
    · rename_i h2
      rw [if_neg h2]
      have := hw (top_ok (encW (graF m)) (encW [vF 2 17])) h
      exact ⟨this.1, .inr ⟨h0, this.2⟩⟩
theorem dec_err {b : List UInt8} (h : (decM b).2 ≠ 0) : (decM b).1 = mo0 ∧ ((decM b).2 = 6 ∨ (decM b).2 = 7 ∨ (decM b).2 = 8) := by
  unfold decM at h ⊢
  split
  · exact ⟨rfl, .inr (.inr rfl)⟩
  · rename_i h1
    rw [if_neg h1] at h
    split
    · rename_i h2
      rw [if_pos h2] at h
      exact absurd rfl h
    · rename_i h2
      refine ⟨rfl, ?_⟩
      dsimp only
      unfold errP at h2 ⊢
      split
      · exact .inl rfl
      · rename_i h3
        rw [if_neg h3] at h2
        split
        · exact .inr (.inl rfl)
        · rename_i h4
          rw [if_neg h4] at h2
          split
          · exact .inr (.inr rfl)
          · rename_i h5
            rw [if_neg h5] at h2
            exact absurd rfl h2
end Go.Proofs.YtlhpmlknmgocoaaGreat
