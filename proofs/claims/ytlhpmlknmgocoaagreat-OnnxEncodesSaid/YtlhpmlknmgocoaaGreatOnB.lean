/- Data that is read while the reader notes; the reader's methods that hold no loop. -/
import Derived.Test.YtlhpmlknmgocoaaGreatOnA
import Derived.Lib.BufferRead
namespace Go.Proofs.YtlhpmlknmgocoaaGreat
set_option linter.unusedSimpArgs false
set_option linter.unusedVariables false
open Go.RowKit

theorem Held.rd {w w' : World} {S : Nat → Prop} {d : Dat} {v : Value} {g : Nat} (h : Held w S d v) (hS : ¬ S g) (hg : w.grownBy w' (some g)) : Held w' S d v :=
  h.grown hg fun b hb e => hS (by injection e with e; exact e ▸ hb)
/-- data, cell by cell -/
inductive HL (w : World) (S : Nat → Prop) : List Dat → List Value → Prop
  | nil : HL w S [] []
  | cons {d : Dat} {v : Value} {ds : List Dat} {vs : List Value} : Held w S d v → HL w S ds vs → HL w S (d :: ds) (v :: vs)
section
variable {w w' : World} {S S' : Nat → Prop}
theorem HL.app {ds ds' : List Dat} {vs vs' : List Value} (h : HL w S ds vs) (h' : HL w S ds' vs') : HL w S (ds ++ ds') (vs ++ vs') := by
  induction h with
  | nil => exact h'
  | cons h1 _ ih => exact .cons h1 ih
theorem HL.len {ds : List Dat} {vs : List Value} (h : HL w S ds vs) : vs.length = ds.length := by
  induction h with
  | nil => rfl
  | cons _ _ ih => simp [ih]
theorem HL.get {ds : List Dat} {vs : List Value} (h : HL w S ds vs) : ∀ (j : Nat) (h1 : j < ds.length) (h2 : j < vs.length), Held w S ds[j] vs[j] := by
  induction h with
  | nil => intro j h1; cases h1
  | cons h1 _ ih =>
    intro j h2 h3
    cases j with
    | zero => exact h1
    | succ j => exact ih j (by simpa using h2) (by simpa using h3)
theorem HL.of : ∀ {ds : List Dat} {vs : List Value} (_ : vs.length = ds.length) (_ : ∀ (j : Nat) (h1 : j < ds.length) (h2 : j < vs.length), Held w S ds[j] vs[j]), HL w S ds vs
  | [], [], _, _ => .nil
  | d :: ds, v :: vs, hl, h => .cons (h 0 (by simp) (by simp)) (HL.of (by simpa using hl) fun j h1 h2 => h (j + 1) (by simpa using h1) (by simpa using h2))
  | [], _ :: _, hl, _ => by simp at hl
  | _ :: _, [], hl, _ => by simp at hl
end

/-! ### fields as data -/
def datFd (f : Fld) : List Dat := [.leaf (.int .i64 f.num), .leaf (.int .i64 f.wire), .leaf (.int .u64 (f.x : Int)), datB f.data]
def datFs (fs : List Fld) : Dat := .row 4 (fs.flatMap datFd)
theorem datFs_len (fs : List Fld) : (fs.flatMap datFd).length = fs.length * 4 := by
  induction fs with
  | nil => rfl
  | cons f fs ih => rw [List.flatMap_cons, List.length_append, ih]; simp [datFd]; omega
theorem hl_fcells {w : World} {S : Nat → Prop} : ∀ (fs : List Fld) (ds : List Value), ds.length = fs.length → (∀ i (h : i < fs.length) (h' : i < ds.length), Held w S (datB fs[i].data) ds[i]) → HL w S (fs.flatMap datFd) (fcells fs ds)
  | [], [], _, _ => .nil
  | f :: fs, d :: ds, hl, h => by
    rw [List.flatMap_cons]
    refine HL.app (.cons (.leaf _) (.cons (.leaf _) (.cons (.leaf _) (.cons (h 0 (by simp) (by simp)) .nil)))) (hl_fcells fs ds (by simpa using hl) fun i h1 h2 => h (i + 1) (by simpa using h1) (by simpa using h2))
  | [], _ :: _, hl, _ => by simp at hl
  | _ :: _, [], hl, _ => by simp at hl
theorem OF.held {w : World} {base : Nat} {e : TypeId} {v : Value} {fs : List Fld} (h : OF w base e v fs) (hm : fs.length ≤ 140737488355328) (hd : ∀ i (h : i < fs.length), fs[i].data.length ≤ 140737488355328) : Held w (Inb base w.heap.size) (datFs fs) v := by
  obtain ⟨ds, h1, h2, h3, -⟩ := h
  have hl := hl_fcells (w := w) (S := Inb base w.heap.size) fs ds h1 fun i h h' => (h3 i h h').held (hd i h)
  rcases h2.2 with ⟨rfl, hn⟩ | ⟨g, cap, cur, rfl, hb, hg, hnc, hcm, hcs, htake⟩
  · obtain rfl : fs = [] := List.eq_nil_of_length_eq_zero hn
    exact Held.nil _ _ _ _ _ (by unfold maxLen; omega)
  · exact .row 4 _ _ fs.length cap (fcells fs ds) (datFs_len fs) hl.len hnc hcm hm (fun _ => ⟨_, rfl, ⟨hb, (Array.getElem?_eq_some_iff.1 hg).1⟩, fun j u hj => h2.cells (g := g) rfl j u hj⟩) hl.get
theorem Held.rf {w : World} {S : Nat → Prop} {v : Value} {fs : List Fld} (h : Held w S (datFs fs) v) : ∃ A c, v = .slice A fs.length c ∧ fs.length ≤ c ∧ c ≤ maxLen ∧ RF w w.heap.size A fs := by
  obtain ⟨A, c, rfl, h2, h3, h4, h5⟩ := Held.rows (f := datFd) (n := 4) (fun _ => rfl) (by omega) h
  refine ⟨A, c, rfl, h2, h3, ?_⟩
  obtain ⟨ds, hdl, hds⟩ := exists_list (P := fun k u => ∀ hk : k < fs.length, DV w w.heap.size u fs[k].data ∧ ∃ ad, A = some ad ∧ ad.block < w.heap.size ∧ ∀ j x, (fcell fs[k] u)[j]? = some x → w.cell? (ad.add (k * 4 + j)) = some x) fs.length fun k hk => by
    obtain ⟨ad, us, hA, hs, hl, hc, hh⟩ := h5 k hk
    match us, hl with
    | [u0, u1, u2, u3], _ =>
      have e0 : u0 = _ := (hh 0 (by simp [datFd]) (by simp)).leaf_eq
      have e1 : u1 = _ := (hh 1 (by simp [datFd]) (by simp)).leaf_eq
      have e2 : u2 = _ := (hh 2 (by simp [datFd]) (by simp)).leaf_eq
      have e3 := hh 3 (by simp [datFd]) (by simp)
      refine ⟨u3, fun _ => ⟨Held.dv e3, ad, hA, ?_, ?_⟩⟩
      · have := World.block_lt_of_cell? w _ (hc 0 u0 rfl)
        rwa [block_of_add] at this
      · intro j x hj
        refine hc j x ?_
        rw [← hj, e0, e1, e2]
        rfl
  refine ⟨ds, hdl, ⟨?_, fun hn => ?_⟩, fun i h h' => (hds i h' h).1⟩
  · rw [fcells_len fs ds hdl]
  · obtain ⟨-, ad, hA, hlt, -⟩ := hds 0 (by omega) hn
    refine ⟨ad, hA, hlt, fun j u hj => ?_⟩
    have hjl : j < fs.length * 4 := by
      have := (List.getElem?_eq_some_iff.1 hj).1
      rwa [fcells_len fs ds hdl] at this
    have hi : j / 4 < fs.length := by omega
    obtain ⟨-, ad', hA', -, hc'⟩ := hds (j / 4) (by omega) hi
    rw [hA] at hA'
    obtain rfl := Option.some.inj hA'
    have e : j = j / 4 * 4 + j % 4 := by omega
    rw [e, fcells_get fs ds hdl (j / 4) (j % 4) hi (by omega) (by omega)] at hj
    rw [e]
    exact hc' _ _ hj

theorem OB.rd {w w' : World} {base g : Nat} {v : Value} {l : List UInt8} (h : OB w base v l) (hg : w.grownBy w' (some g)) (hlt : g < base) : OB w' base v l :=
  h.kept hg (by
    right
    intro e
    have := (h.lt g e).1
    omega)
section
variable {w : World} {g : Nat} {f : Fl}
theorem RdB.to {f' : Fl} (h : RdB w g f) (e : f = f') : RdB w g f' := e ▸ h
/-- a note beside what has been noted -/
theorem RdB.or0 (h : RdB w g f) (c : Bool) {b : Bool} (hb : b = (f.bad || c)) : RdB (w.setCell ⟨g, 0, none⟩ (.bool b)) g (f.or (flb c)) := by
  subst hb
  have := h.set0 (f.bad || c)
  simpa [Fl.or, flb] using this
theorem RdB.or1 (h : RdB w g f) (c : Bool) {b : Bool} (hb : b = (f.strange || c)) : RdB (w.setCell ⟨g, 1, none⟩ (.bool b)) g (f.or ⟨false, c, false⟩) := by
  subst hb
  have := h.set1 (f.strange || c)
  simpa [Fl.or] using this
theorem RdB.or2 (h : RdB w g f) (c : Bool) {b : Bool} (hb : b = (f.many || c)) : RdB (w.setCell ⟨g, 2, none⟩ (.bool b)) g (f.or ⟨false, false, c⟩) := by
  subst hb
  have := h.set2 (f.many || c)
  simpa [Fl.or] using this
end
/-- fields as they come of a message -/
def Sm (fs : List Fld) : Prop := fs.length ≤ 4194304 ∧ bulkF fs ≤ 4194304 ∧ Wf64 fs
theorem Sm.data {fs : List Fld} (h : Sm fs) (i : Nat) (hi : i < fs.length) : fs[i].data.length ≤ 4194304 := by
  have := data_bulk hi
  have := h.2.1
  omega
theorem dFields_sm (l : List UInt8) : Sm (dFields l).1 := dFields_len l

/-! ### numbers -/
theorem ret_ib {x y : Int} {b : Bool} (h : x = y) : Ending.returned (.tuple #[.int .i64 x, .bool b]) = .returned (.tuple #[.int .i64 y, .bool b]) := by rw [h]
theorem i64_wrap (n : Nat) : wrap64 (n : Int) = (i64 n).toInt := by
  unfold wrap64 i64
  show _ = (UInt64.ofNat n).toBitVec.toInt
  rw [UInt64.toBitVec_ofNat', BitVec.toInt_eq_toNat_bmod, BitVec.toNat_ofNat, Int.bmod_def]
  omega

/-- a string out of bytes -/
theorem run_text {w : World} {B n c : Nat} {A : Option Addr} {l : List UInt8} (hn : n = l.length) (h : RB w B A l) : (convert 28 9 (.slice A n c)).run Tryz.prog w = .ok (strV l) w := by
  subst hn
  by_cases h0 : 0 < l.length
  · obtain ⟨ad, rfl, hb, hc⟩ := h.2 h0
    rw [run_convert_bytes_string w 28 9 5 _ _ _ Tryz.underlying28 Tryz.underlying5 Tryz.underlying9]
    have e : byt l = (l.map fun c => (c.toNat : Int)).map (Value.int .u8) := by simp [byt]
    have hl : (byt l).length = l.length := byt_len l
    have h1 := run_loadCells_list (P := Tryz.prog) (w := w) ad (byt l) hc
    rw [hl, e] at h1
    rw [run_bytesToString w ad l.length c (l.map fun c => (c.toNat : Int)) h1]
    congr 2
    have : ∀ (l : List UInt8) (r : ByteArray), (l.map fun c => (c.toNat : Int)).foldl (fun r n => r.push (UInt8.ofNat n.toNat)) r = ⟨r.data ++ l.toArray⟩ := by
      intro l
      induction l with
      | nil => intro r; simp
      | cons c l ih =>
        intro r
        simp only [List.map_cons, List.foldl_cons, ih, Int.toNat_natCast]
        have : (UInt8.ofNat c.toNat) = c := by simp
        rw [this]
        congr 1
        simp [ByteArray.push]
    rw [this]
    simp [ByteArray.empty, ByteArray.emptyWithCapacity]
    rfl
  · obtain rfl : l = [] := List.eq_nil_of_length_eq_zero (by omega)
    cases A with
    | none => exact Lib.run_convert_nil_bytes w _ _ _ c Tryz.underlying28 Tryz.underlying5 Tryz.underlying9
    | some ad =>
      rw [run_convert_bytes_string w 28 9 5 _ _ _ Tryz.underlying28 Tryz.underlying5 Tryz.underlying9]
      rw [show ([] : List UInt8).length = 0 from rfl, run_bytesToString w ad 0 c [] (run_loadCells_list (P := Tryz.prog) (w := w) ad [] (fun j v hj => by simp at hj))]
      rfl

/-! ### the reader's methods -/
/-- notes fl, beside d -/
def Rd (w : World) (g : Nat) (f : Fl) (d : Dat) (fl : Fl) (e : Ending) (w' : World) : Prop :=
  ∃ u, e = .returned u ∧ Held w' (Inb w.heap.size w'.heap.size) d u ∧ RdB w' g (f.or fl) ∧ w.grownBy w' (some g)

section
variable {g : Nat} {f : Fl} {S : Nat → Prop} {v : Value} {w : World}
set_option maxRecDepth 100000 in
theorem fields_any {l : List UInt8} (hk : RdB w g f) (hv : Held w S (datB l) v) :
    Calls Tryz.prog 35 #[.pointer (some ⟨g, 0, none⟩), v] w (Rd w g f (datFs (dFields l).1) (dFields l).2) := by
  obtain ⟨A, c, rfl, h2, h3, h4⟩ := hv.dv
  generalize hr : readE l = r
  obtain ⟨fs, er⟩ := r
  have hsm := dFields_sm l
  have HD : Hid ((dFields l).1 = fs ∧ (dFields l).2 = flb (!decide (er = 0))) := Lib.hid (by simp [dFields, hr])
  rw [HD.out.1] at hsm
  have HC := Lib.hid (read_at (A := A) (cap := c) (w := w) l rfl hr h2 h3 h4)
  clear hv hr h2 h3 h4
  generalize l.length = n at *
  go_enter Tryz.func35, Tryz.ntmps35
  go_wp2_with fail
  refine HC.out.mono ?_
  rintro e w1 ⟨v1, rfl, ho, hb⟩
  have HO := Lib.hid (ho.held (by have := hsm.1; omega) fun i hi => by have := hsm.data i hi; omega)
  obtain ⟨A1, c1, rfl, -⟩ := ho.form
  have HB := Lib.hid hb
  have hk1 := hk.past hb
  clear ho hb
  go_wp2_with fail
  refine (no_any g f er w1 hk1).mono ?_
  rintro e w2 ⟨rfl, hk2, hg2⟩
  have hlt := hk.lt
  have hsz := HB.out.size
  have hsz2 := hg2.size
  go_wp2
  go_ret
  refine ⟨_, rfl, ?_, ?_, grown_trans (grown_past HB.out _) hg2⟩
  · rw [HD.out.1]
    exact (HO.out.rd (fun h => by have := h.1; omega) hg2).mono fun b hb => ⟨hb.1, by have := hb.2; omega⟩
  · rw [HD.out.2]; exact hk2

/-- a single field, as Last finds it -/
def dLast (l : List Fld) (num wire : Int) : Fld × Bool × Int := lastF wire (sel num l)
set_option maxRecDepth 100000 in
theorem number_any {fs : List Fld} (num : Int) (hk : RdB w g f) (hv : Held w S (datFs fs) v) (hm : Sm fs) :
    Calls Tryz.prog 36 #[.pointer (some ⟨g, 0, none⟩), v, .int .i64 num] w fun e w' =>
      e = .returned (.tuple #[.int .i64 (dNum fs num).1.1.toInt, .bool (dNum fs num).1.2]) ∧ RdB w' g (f.or (dNum fs num).2) ∧ w.grownBy w' (some g) := by
  obtain ⟨A, c, rfl, h2, h3, h4⟩ := hv.rf
  generalize hr : lastF 0 (sel num fs) = r
  obtain ⟨a, b, er⟩ := r
  have HD : Hid ((dNum fs num).1 = (i64 a.x, b) ∧ (dNum fs num).2 = flb (!decide (er = 0))) := Lib.hid (by simp [dNum, hr])
  have HC := Lib.hid (last_at (A := A) (cap := c) (w := w) rfl hr (by have := hm.1; omega) (by have := hm.2.1; omega) h4)
  clear hv hr h2 h3 h4
  generalize fs.length = n at *
  go_enter Tryz.func36, Tryz.ntmps36
  go_wp2_with fail
  refine HC.out.mono ?_
  rintro e w1 ⟨A1, n1, c1, rfl, -, -, hb⟩
  have HB := Lib.hid hb
  have hk1 := (hk.past hb).alloc (.cells #[.int .i64 a.num, .int .i64 a.wire, .int .u64 (a.x : Int), .slice A1 n1 c1] 108)
  clear hb
  go_wp2_with fail
  refine (no_any g f er _ hk1).mono ?_
  rintro e w2 ⟨rfl, hk2, hg2⟩
  have hlt := hk.lt
  have hsz := HB.out.size
  obtain ⟨-, -, c2, -⟩ := blk4 ((Blk.new w1 108 #[.int .i64 a.num, .int .i64 a.wire, .int .u64 (a.x : Int), .slice A1 n1 c1]).grown hg2 (by simp; omega))
  have HW := Lib.hid (i64_wrap a.x)
  go_wp2
  go_ret2
  rw [HD.out.1, HD.out.2]
  exact ⟨ret_ib HW.out, hk2, grown_trans (grown_past (HB.out.alloc (by omega) _) _) hg2⟩

set_option maxRecDepth 100000 in
theorem message_any {fs : List Fld} (num : Int) (hk : RdB w g f) (hv : Held w S (datFs fs) v) (hm : Sm fs) :
    Calls Tryz.prog 37 #[.pointer (some ⟨g, 0, none⟩), v, .int .i64 num] w fun e w' =>
      ∃ u, e = .returned (.tuple #[u, .bool (dMsg fs num).1.2]) ∧ Held w' (Inb w.heap.size w'.heap.size) (datB (dMsg fs num).1.1) u ∧ RdB w' g (f.or (dMsg fs num).2) ∧ w.grownBy w' (some g) := by
  obtain ⟨A, c, rfl, h2, h3, h4⟩ := hv.rf
  have hlen : ((jn (sel num fs)).getD []).length ≤ 4194304 := by
    have h5 := jn_len' (sel num fs)
    have h6 := bulk_sel num fs
    have h7 := hm.2.1
    omega
  obtain ⟨b, hb0⟩ : ∃ b, jnb (sel num fs) = b := ⟨_, rfl⟩
  obtain ⟨er, her⟩ : ∃ er, jne (sel num fs) = er := ⟨_, rfl⟩
  obtain ⟨l, hl⟩ : ∃ l, (jn (sel num fs)).getD [] = l := ⟨_, rfl⟩
  have HD : Hid ((dMsg fs num).1 = (l, b) ∧ (dMsg fs num).2 = flb (!decide (er = 0))) := Lib.hid (by simp [dMsg, hb0, her, hl])
  rw [hl] at hlen
  have HC := Lib.hid (joined_at (A := A) (cap := c) (w := w) rfl hl hb0 her (by have := hm.1; omega) (by have := hm.2.1; omega) h4)
  clear hv hb0 her hl h2 h3 h4
  generalize fs.length = n at *
  go_enter Tryz.func37, Tryz.ntmps37
  go_wp2_with fail
  refine HC.out.mono ?_
  rintro e w1 ⟨A1, n1, c1, rfl, -, ho, hb⟩
  have HB := Lib.hid hb
  have HO := Lib.hid (ho.held (by omega))
  have hk1 := hk.past hb
  clear hb ho
  go_wp2_with fail
  refine (no_any g f er _ hk1).mono ?_
  rintro e w2 ⟨rfl, hk2, hg2⟩
  have hlt := hk.lt
  have hsz := HB.out.size
  have hsz2 := hg2.size
  go_wp2
  go_ret2
  rw [HD.out.1, HD.out.2]
  exact ⟨_, rfl, (HO.out.rd (fun h => by have := h.1; omega) hg2).mono fun b hb => ⟨hb.1, by have := hb.2; omega⟩, hk2, grown_trans (grown_past HB.out _) hg2⟩

theorem dText_len {fs : List Fld} {num : Int} (hm : Sm fs) : (lastF 2 (sel num fs)).1.data.length ≤ 4194304 := by
  have h5 := lastF_len (wire := 2) (a := sel num fs) (f := (lastF 2 (sel num fs)).1) (b := (lastF 2 (sel num fs)).2.1) (er := (lastF 2 (sel num fs)).2.2) rfl
  have h6 := bulk_sel num fs
  have h7 := hm.2.1
  omega
set_option maxRecDepth 100000 in
theorem text_any {fs : List Fld} (num : Int) (most : Nat) (hk : RdB w g f) (hv : Held w S (datFs fs) v) (hm : Sm fs) :
    Calls Tryz.prog 87 #[.pointer (some ⟨g, 0, none⟩), v, .int .i64 num, .int .i64 most] w fun e w' =>
      e = .returned (strV (dText fs num most).1) ∧ RdB w' g (f.or (dText fs num most).2) ∧ w.grownBy w' (some g) := by
  obtain ⟨A, c, rfl, h2, h3, h4⟩ := hv.rf
  have hlen := dText_len (num := num) hm
  generalize hr : lastF 2 (sel num fs) = r at *
  obtain ⟨a, b, er⟩ := r
  have HD : Hid ((dText fs num most).1 = a.data ∧ (dText fs num most).2 = ⟨!decide (er = 0), false, decide (most < a.data.length)⟩) := Lib.hid (by simp [dText, hr])
  have HC := Lib.hid (last_at (A := A) (cap := c) (w := w) rfl hr (by have := hm.1; omega) (by have := hm.2.1; omega) h4)
  clear hv hr h2 h3 h4
  generalize fs.length = n at *
  go_enter Tryz.func87, Tryz.ntmps87
  go_wp2_with fail
  refine HC.out.mono ?_
  rintro e w1 ⟨A1, n1, c1, rfl, hn1, ho, hb⟩
  have HB := Lib.hid hb
  have hk1 := (hk.past hb).alloc (.cells #[.int .i64 a.num, .int .i64 a.wire, .int .u64 (a.x : Int), .slice A1 n1 c1] 108)
  have HO := Lib.hid ho
  have hn2 : n1 ≤ 4194304 := by have := hn1.out; omega
  clear hb ho
  go_wp2_with fail
  refine (no_any g f er _ hk1).mono ?_
  rintro e w2 ⟨rfl, hk2, hg2⟩
  have hlt := hk.lt
  have hsz := HB.out.size
  have hp := (Blk.new w1 108 #[.int .i64 a.num, .int .i64 a.wire, .int .u64 (a.x : Int), .slice A1 n1 c1]).grown hg2 (by simp; omega)
  have hrun : ∀ x, (convert 28 9 (.slice A1 n1 c1)).run Tryz.prog (w2.setCell ⟨g, 2, none⟩ x) = .ok (strV a.data) (w2.setCell ⟨g, 2, none⟩ x) := fun x =>
    run_text (hn1.out) (((HO.out.alloc (.cells #[.int .i64 a.num, .int .i64 a.wire, .int .u64 (a.x : Int), .slice A1 n1 c1] 108)).rd hg2 (by omega)).setLow (p := ⟨g, 2, none⟩) (by simp; omega) x).rb
  obtain ⟨-, -, -, c3⟩ := blk4 hp
  have hp2 : ∀ x, (w2.setCell ⟨g, 2, none⟩ x).cell? ⟨w1.heap.size, 3, none⟩ = some (.slice A1 n1 c1) := fun x => (blk4 (hp.far (p := ⟨g, 2, none⟩) (by simp; omega) x)).2.2.2
  obtain ⟨k0, k1, k2, z0, z1, z2, k3⟩ := hk2.cells
  have HK2 := Lib.hid hk2
  obtain ⟨q, hq⟩ : ∃ q, (f.or (flb (!decide (er = 0)))).many = q := ⟨_, rfl⟩
  rw [hq] at k2
  cases q
  all_goals
    by_cases hlong : most < n1
    all_goals
      go_wp2
      go_ret
      rw [HD.out.1, HD.out.2]
      refine ⟨rfl, ?_, grown_trans (grown_trans (grown_past (HB.out.alloc (by omega) _) _) hg2) (grown_set _ _ _ _)⟩
      have hd : decide (most < a.data.length) = decide (most < n1) := by rw [hn1.out]
      refine (HK2.out.or2 (decide (most < n1)) ?_).to ?_
      · rw [hq]; simp [hlong]
      · rw [hd, Fl.or_assoc]; simp [Fl.or, flb]

set_option maxRecDepth 100000 in
theorem name_any {fs : List Fld} (num : Int) (hk : RdB w g f) (hv : Held w S (datFs fs) v) (hm : Sm fs) :
    Calls Tryz.prog 65 #[.pointer (some ⟨g, 0, none⟩), v, .int .i64 num] w fun e w' =>
      e = .returned (strV (dText fs num 256).1) ∧ RdB w' g (f.or (dText fs num 256).2) ∧ w.grownBy w' (some g) := by
  have HC := Lib.hid (text_any num 256 hk hv hm)
  obtain ⟨A, c, rfl, -⟩ := hv.rf
  clear hk hv hm
  go_enter Tryz.func65, Tryz.ntmps65
  go_wp2_with fail
  refine HC.out.mono ?_
  rintro e w1 ⟨rfl, h1, h2⟩
  have H1 := Lib.hid h1
  clear h1
  go_wp2
  go_ret
  exact ⟨rfl, H1.out, h2⟩
set_option maxRecDepth 100000 in
theorem domain_any {fs : List Fld} (num : Int) (hk : RdB w g f) (hv : Held w S (datFs fs) v) (hm : Sm fs) :
    Calls Tryz.prog 91 #[.pointer (some ⟨g, 0, none⟩), v, .int .i64 num] w fun e w' =>
      e = .returned (strV (dText fs num 4194304).1) ∧ RdB w' g (f.or (dText fs num 4194304).2) ∧ w.grownBy w' (some g) := by
  have HC := Lib.hid (text_any num 4194304 hk hv hm)
  obtain ⟨A, c, rfl, -⟩ := hv.rf
  clear hk hv hm
  go_enter Tryz.func91, Tryz.ntmps91
  go_wp2_with fail
  refine HC.out.mono ?_
  rintro e w1 ⟨rfl, h1, h2⟩
  have H1 := Lib.hid h1
  clear h1
  go_wp2
  go_ret
  exact ⟨rfl, H1.out, h2⟩

end
/-! numbers of a list, as data -/
theorem gat_all {g : Fld → Option (List Nat)} {P : Nat → Prop} : ∀ {fs : List Fld} {xs : List Nat}, (∀ f ∈ fs, ∀ a, g f = some a → (∀ x ∈ a, P x) ∧ a.length ≤ f.data.length + 1) → gat g fs = some xs → (∀ x ∈ xs, P x) ∧ xs.length ≤ bulkF fs
  | [], xs, _, h => by simp [gat] at h; subst h; simp
  | f :: fs, xs, hf, h => by
    simp only [gat] at h
    cases h1 : g f with
    | none => rw [h1] at h; simp at h
    | some a =>
      rw [h1] at h
      cases h2 : gat g fs with
      | none => rw [h2] at h; simp at h
      | some b =>
        rw [h2] at h
        simp only [Option.map_some, Option.some.injEq] at h
        subst h
        obtain ⟨h3, h4⟩ := gat_all (fun f hf' => hf f (by simp [hf'])) h2
        obtain ⟨h5, h6⟩ := hf f (by simp) a h1
        refine ⟨fun x hx => ?_, by simp only [bulkF, List.length_append]; omega⟩
        rcases List.mem_append.1 hx with hx | hx
        · exact h5 x hx
        · exact h3 x hx
theorem fixs_all {num : Int} {fs : List Fld} {xs : List Nat} (h : gat (fixs1 num) fs = some xs) : (∀ x ∈ xs, x < 4294967296) ∧ xs.length ≤ bulkF fs := by
  refine gat_all (fun f _ a ha => ?_) h
  unfold fixs1 at ha
  split at ha
  · simp at ha; subst ha; simp
  · unfold fixs0 at ha
    split at ha
    · simp at ha; subst ha
      exact ⟨fun x hx => by simp at hx; omega, by simp⟩
    · split at ha
      · simp at ha; subst ha
        refine ⟨fun x hx => ?_, by rw [fours_len]; omega⟩
        simp only [fours, List.mem_map, List.mem_range] at hx
        obtain ⟨i, -, rfl⟩ := hx
        exact four_lt _ _
      · cases ha
def oerr (r : Option (List Nat)) : Int := match r with | none => 6 | some _ => 0
def NRe (k : IntKind) (t : TypeId) (w : World) (r : Option (List Nat)) (er : Int) (e : Ending) (w' : World) : Prop := ∃ v, e = .returned (.tuple #[v, .int .i64 er]) ∧ ON k w' w.heap.size t v (r.getD []) ∧ Below w.heap.size w w'
theorem ON.heldF {w : World} {base : Nat} {e : TypeId} {u : Value} {l : List Nat} (h : ON .u32 w base e u l) (hl : ∀ x ∈ l, x < 4294967296) (hm : l.length ≤ 140737488355328) : Held w (Inb base w.heap.size) (datF (l.map UInt32.ofNat)) u := by
  have : HRow w base e 1 u l.length ((l.map UInt32.ofNat).map fun x => .leaf (.int .u32 (x.toNat : Int))) := by
    refine ⟨nums .u32 l, by simp [nums], h, fun j hj hj' => ?_⟩
    simp only [nums, List.getElem_map]
    have hjl : j < l.length := by simpa [nums] using hj'
    have hx := hl l[j] (List.getElem_mem hjl)
    rw [show ((UInt32.ofNat l[j]).toNat : Int) = (l[j] : Int) by simp; omega]
    exact .leaf _
  exact this.held hm

section
variable {g : Nat} {f : Fl} {S : Nat → Prop} {v : Value} {w : World}
set_option maxRecDepth 100000 in
theorem floats_any {fs : List Fld} (num : Int) (hk : RdB w g f) (hv : Held w S (datFs fs) v) (hm : Sm fs) :
    Calls Tryz.prog 96 #[.pointer (some ⟨g, 0, none⟩), v, .int .i64 num] w (Rd w g f (datF (dFloats fs num).1) (dFloats fs num).2) := by
  obtain ⟨A, c, rfl, h2, h3, h4⟩ := hv.rf
  obtain ⟨r, hr⟩ : ∃ r, gat (fixs1 num) fs = r := ⟨_, rfl⟩
  have HC : Hid (Calls Tryz.prog 106 #[.slice A fs.length c, .int .i64 num] w (NRe .u32 96 w r (oerr r))) := Lib.hid (hr ▸ fixd_any A c fs num w h3 h2 h4 (by have := hm.2.1; omega))
  have HL : Hid ((∀ x ∈ r.getD [], x < 4294967296) ∧ (r.getD []).length ≤ 4194304) := Lib.hid (by
    cases r with
    | none => simp
    | some xs =>
      obtain ⟨h5, h6⟩ := fixs_all hr
      have := hm.2.1
      exact ⟨h5, by simp; omega⟩)
  obtain ⟨er, her⟩ : ∃ er : Int, oerr r = er := ⟨_, rfl⟩
  rw [her] at HC
  have HD : Hid ((dFloats fs num).1 = (r.getD []).map UInt32.ofNat ∧ (dFloats fs num).2 = flb (!decide (er = 0))) := Lib.hid (by
    subst her
    cases r <;> simp [dFloats, hr, oerr])
  clear hv hr her h2 h3 h4
  generalize fs.length = n at *
  go_enter Tryz.func96, Tryz.ntmps96
  go_wp2_with fail
  refine HC.out.mono ?_
  rintro e w1 ⟨u, rfl, ho, hb⟩
  have HB := Lib.hid hb
  have HO := Lib.hid (ON.heldF ho HL.out.1 (by have := HL.out.2; omega))
  have hk1 := hk.past hb
  clear hb ho
  go_wp2_with fail
  refine (no_any g f er _ hk1).mono ?_
  rintro e w2 ⟨rfl, hk2, hg2⟩
  have hlt := hk.lt
  have hsz := HB.out.size
  have hsz2 := hg2.size
  go_wp2
  go_ret
  unfold Rd
  rw [HD.out.1, HD.out.2]
  exact ⟨_, rfl, (HO.out.rd (fun h => by have := h.1; omega) hg2).mono fun b hb => ⟨hb.1, by have := hb.2; omega⟩, hk2, grown_trans (grown_past HB.out _) hg2⟩

theorem ON.rdr {k : IntKind} {w1 w2 : World} {base n c : Nat} {e : TypeId} {A : Option Addr} {l : List Nat} (h : ON k w1 base e (.slice A n c) l) (hg : w1.grownBy w2 (some g)) (hlt : g < base) : Reads w2 w2.heap.size 1 A n (nums k l) := by
  have h1 : ON k w2 base e (.slice A n c) l := World.ownsRow.kept h hg (by
    right
    intro e'
    have := (World.ownsRow.lt h g e').1
    omega)
  obtain ⟨A', n', c', e1, -, -, -, h2⟩ := h1.form
  injection e1 with e2 e3 e4
  subst e2 e3
  exact h2
theorem Reads.num_at {k : IntKind} {B n : Nat} {A : Option Addr} {l : List Nat} (h : Reads w B 1 A n (nums k l)) {j : Nat} (hj : j < l.length) : ∃ b off, A = some ⟨b, off, none⟩ ∧ b < B ∧ w.cell? ⟨b, off + j, none⟩ = some (.int k (l[j] : Int)) := by
  have hn : l.length = n := by have := h.1; simpa [nums] using this
  obtain ⟨ad, u, hA, hb, hu, hc⟩ := h.at_ (k := j) (by omega)
  obtain ⟨b, off, spot⟩ := ad
  have hs : spot = none := by
    have h2 := World.cell?_spot hc
    unfold Addr.add at h2
    split at h2
    · exact h2
    · obtain ⟨ad', u', hA', -, -, hc'⟩ := h.at_ (k := 0) (by omega)
      rw [hA] at hA'
      obtain rfl := Option.some.inj hA'
      simpa [Addr.add] using World.cell?_spot hc'
  subst hs
  rw [Addr.add_lit] at hc
  refine ⟨b, off, hA, hb, ?_⟩
  rw [hc, ← hu]
  simp [nums, hj]
theorem info_i64 : (Tryz.prog.info? 2).map (fun i => (i.zero, i.size, i.bytes)) = some (some (.int .i64 0), 1, 8) := by kernel_rfl
def ITrel (xs : List Nat) (W2 : World) (out i : Value) (wr : World) : Prop :=
  ∃ k : Nat, k ≤ xs.length ∧ i = .int .i64 (k : Int) ∧ HRow wr W2.heap.size 2 1 out k ((xs.take k).map fun x => lfI (i64 x)) ∧ Below W2.heap.size W2 wr
set_option maxRecDepth 100000 in
set_option maxHeartbeats 1600000 in
theorem oints_any {fs : List Fld} (num : Int) (hk : RdB w g f) (hv : Held w S (datFs fs) v) (hm : Sm fs) :
    Calls Tryz.prog 94 #[.pointer (some ⟨g, 0, none⟩), v, .int .i64 num] w (Rd w g f (datI (dInts fs num).1) (dInts fs num).2) := by
  obtain ⟨A, c, rfl, h2, h3, h4⟩ := hv.rf
  obtain ⟨r, hr⟩ : ∃ r, ints num fs = r := ⟨_, rfl⟩
  have HC : Hid (Calls Tryz.prog 105 #[.slice A fs.length c, .int .i64 num] w (NRe .u64 60 w r (oerr r))) := Lib.hid (hr ▸ ints_any A c fs num w h3 h2 h4 (by have := hm.2.1; omega))
  obtain ⟨xs, hxs⟩ : ∃ xs, r.getD [] = xs := ⟨_, rfl⟩
  have hlen : xs.length ≤ 4194304 := by
    subst hxs
    cases r with
    | none => simp
    | some xs =>
      have h6 := ints_len hr
      have := hm.2.1
      simp; omega
  obtain ⟨er, her⟩ : ∃ er : Int, oerr r = er := ⟨_, rfl⟩
  rw [her] at HC
  have HD : Hid ((dInts fs num).1 = xs.map i64 ∧ (dInts fs num).2 = flb (!decide (er = 0))) := Lib.hid (by
    subst her hxs
    cases r <;> simp [dInts, hr, oerr])
  clear hv hr her h2 h3 h4
  generalize fs.length = n at *
  go_enter Tryz.func94, Tryz.ntmps94
  go_wp2_with fail
  refine HC.out.mono ?_
  rintro e w1 ⟨u, rfl, ho, hb⟩
  rw [hxs] at ho
  have HB := Lib.hid hb
  obtain ⟨A1, n1, c1, rfl, hn1, -, -, hrd⟩ := ho.form
  have hk1 := hk.past hb
  have HR := Lib.hid hrd
  have HO := Lib.hid ho
  clear hb ho hxs hrd
  go_wp2_with fail
  refine (no_any g f er _ hk1).mono ?_
  rintro e w2 ⟨rfl, hk2, hg2⟩
  have hlt := hk.lt
  have hsz := HB.out.size
  have hsz2 := hg2.size
  subst hn1
  have HX := Lib.hid (HO.out.rdr hg2 (by omega))
  go_wp2
  go_loopw [9, 23] (fun out i wr => ITrel xs w2 out i wr) (fun _ i _ => xs.length - (intOf i).toNat)
  case atStart => exact ⟨0, Nat.zero_le _, rfl, HRow.nil _ _ _ _, Below.refl _ _⟩
  case round =>
    obtain ⟨k, hk', rfl, hrow, hbel⟩ := hrel
    have hz := hbel.size
    by_cases hlt' : k < xs.length
    · obtain ⟨b, off, rfl, hbb, hc0⟩ := HX.out.num_at hlt'
      have hc1 := (hbel.cell (p := ⟨b, off + k, none⟩) hbb).trans hc0
      have HW := Lib.hid (i64_wrap xs[k])
      have HT : Hid ((xs.take (k + 1)).map (fun x => lfI (i64 x)) = (xs.take k).map (fun x => lfI (i64 x)) ++ [lfI (i64 xs[k])]) := Lib.hid (by rw [List.take_succ_eq_append_getElem hlt', List.map_append]; rfl)
      clear hc0
      go_wp2_with (at_builtin
                   go_must (refine append_dat 52 2 (.int .i64 0) 1 8 (by kernel_rfl) info_i64 rfl (by decide) rfl _ _ rfl hrow rfl rfl rfl [lfI (i64 xs[k])] [.int .i64 (wrap64 xs[k])] rfl rfl (by simp [Value.oneCell']) (fun j hj hj' => by
                    have : j = 0 := by simp at hj; omega
                    subst this
                    show Held wr _ (lfI (i64 xs[k])) (.int .i64 (wrap64 xs[k]))
                    rw [HW.out]
                    exact .leaf _) (by omega) (by unfold maxLen; omega) hz ?_; intro v2 w3 ho2 hg2 ha2))
      go_roundw
      case rel => exact ⟨k + 1, by omega, by go_num, by rw [HT.out]; exact ho2, hbel.grown hg2 (by omega) (fun q hq => (hrow.lt q hq).1)⟩
      case measure => simp [intOf]; omega
    · have hke : k = xs.length := by omega
      go_wp2
      go_ret
      have e1 : xs.take k = xs := by rw [hke, List.take_length]
      rw [e1] at hrow
      unfold Rd
      rw [HD.out.1, HD.out.2]
      have h9 := hrow.held (by omega)
      refine ⟨_, rfl, ?_, hk2.past hbel, grown_trans (grown_trans (grown_past HB.out _) hg2) (grown_past hbel _)⟩
      have e2 : datI (xs.map i64) = .row 1 (xs.map fun x => lfI (i64 x)) := by simp [datI, lfI]
      rw [e2]
      exact h9.mono fun b hb => ⟨by have := hb.1; omega, hb.2⟩
end
end Go.Proofs.YtlhpmlknmgocoaaGreat
