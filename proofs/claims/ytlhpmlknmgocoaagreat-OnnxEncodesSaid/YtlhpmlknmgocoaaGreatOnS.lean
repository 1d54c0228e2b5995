/- The reader's attribute. -/
import Derived.Test.YtlhpmlknmgocoaaGreatOnR
namespace Go.Proofs.YtlhpmlknmgocoaaGreat
set_option linter.unusedSimpArgs false
set_option linter.unusedVariables false
open Go.RowKit
theorem att_out (w : World) (tmps : Array Value) (g : Nat) (c0 c1 c2 c3 c4 c5 c6 c7 c8 c9 c10 c11 : Value) (h4 : tmps.getD 4 undef = .pointer (some ⟨g, 0, none⟩)) (hk : Blk w g 98 #[c0, c1, c2, c3, c4, c5, c6, c7, c8, c9, c10, c11]) :
    (results Tryz.f90 tmps).run Tryz.prog w = .ok (.agg #[c0, c1, c2, c3, c4, c5, c6, c7, c8, c9, c10, c11]) w := by
  obtain ⟨k0, k1, k2, k3, k4, k5, k6, k7, k8, k9, k10, k11, -⟩ := blkc12 hk
  rw [Array.getD_eq_getD_getElem?] at h4
  simp [results, Tryz.results90, go_sem, h4, k0, k1, k2, k3, k4, k5, k6, k7, k8, k9, k10, k11]
theorem kd_cases (kd : Int64) : kd = 0 ∨ kd = 1 ∨ kd = 2 ∨ kd = 3 ∨ kd = 4 ∨ kd = 6 ∨ kd = 7 ∨ (kd ≠ 0 ∧ kd ≠ 1 ∧ kd ≠ 2 ∧ kd ≠ 3 ∧ kd ≠ 4 ∧ kd ≠ 6 ∧ kd ≠ 7) := by
  by_cases h0 : kd = 0 <;> by_cases h1 : kd = 1 <;> by_cases h2 : kd = 2 <;> by_cases h3 : kd = 3 <;> by_cases h4 : kd = 4 <;> by_cases h6 : kd = 6 <;> by_cases h7 : kd = 7 <;> simp [*]
theorem beq_i64 {kd : Int64} {ki n : Int} (h : kd.toInt = ki) (m : Int64) (hm : m.toInt = n) (hn : kd ≠ m) : (ki == n) = false := by
  rw [beq_eq_false_iff_ne]
  intro e
  exact hn ((i64_eq kd n m hm).2 (h.trans e))
def AttR (w : World) (g : Nat) (f : Fl) (r : Atr × Fl) (e : Ending) (w' : World) : Prop :=
  ∃ (x : Atr) (A1 : Option Addr) (n1 c1 : Nat) (A2 : Option Addr) (n2 c2 : Nat) (A3 : Option Addr) (n3 c3 : Nat) (A4 : Option Addr) (n4 c4 : Nat) (A5 : Option Addr) (n5 c5 : Nat) (A6 : Option Addr) (n6 c6 : Nat), ((f.or r.2).bad = false → x = r.1) ∧
    e = .returned (.agg #[.string ⟨x.name.toArray⟩, .int .i64 x.kind.toInt, .int .u32 (x.f.toNat : Int), .int .i64 x.i.toInt, .string ⟨x.s.toArray⟩, .int .i64 x.t.ty.toInt, .slice A1 n1 c1, .slice A2 n2 c2, .slice A3 n3 c3, .slice A4 n4 c4, .slice A5 n5 c5, .slice A6 n6 c6]) ∧
    Held w' (Inb w.heap.size w'.heap.size) (datI x.t.dims) (.slice A1 n1 c1) ∧ Held w' (Inb w.heap.size w'.heap.size) (datF x.t.f) (.slice A2 n2 c2) ∧
    Held w' (Inb w.heap.size w'.heap.size) (datI x.t.i) (.slice A3 n3 c3) ∧ Held w' (Inb w.heap.size w'.heap.size) (datO x.t.b) (.slice A4 n4 c4) ∧
    Held w' (Inb w.heap.size w'.heap.size) (datF x.fl) (.slice A5 n5 c5) ∧ Held w' (Inb w.heap.size w'.heap.size) (datI x.il) (.slice A6 n6 c6) ∧ RdB w' g (f.or r.2) ∧ w.grownBy w' (some g)
/-- the tensor of an attribute -/
def attC (l : List Fld) : Ini × Fl := if (dMsg l 5).1.2 then dTensor (dMsg l 5).1.1 else (⟨[], tn0⟩, fl0)
def attFl (l : List Fld) : Fl :=
  (dText l 1 256).2.or <| (flb (!decide ((lastF 5 (sel 2 l)).2.2 = 0))).or <| (dNum l 3).2.or <| (dText l 4 4096).2.or <| (dMsg l 5).2.or <| (attC l).2.or <| (dFloats l 7).2.or <| (dInts l 8).2.or <| Fl.or ⟨false, false, decide (4096 < (dFloats l 7).1.length) || decide (4096 < (dInts l 8).1.length)⟩ <| (dNum l 20).2
theorem dAttL_eq (l : List Fld) : dAttL l =
    if (dNum l 20).1.1 = 0 then (⟨(dText l 1 256).1, (dNum l 20).1.1, 0, 0, [], tn0, [], []⟩, (attFl l).or (flb true))
    else if (dNum l 20).1.1 = 1 then (⟨(dText l 1 256).1, (dNum l 20).1.1, UInt32.ofNat (lastF 5 (sel 2 l)).1.x, 0, [], tn0, [], []⟩, attFl l)
    else if (dNum l 20).1.1 = 2 then (⟨(dText l 1 256).1, (dNum l 20).1.1, 0, (dNum l 3).1.1, [], tn0, [], []⟩, attFl l)
    else if (dNum l 20).1.1 = 3 then (⟨(dText l 1 256).1, (dNum l 20).1.1, 0, 0, (dText l 4 4096).1, tn0, [], []⟩, attFl l)
    else if (dNum l 20).1.1 = 4 then (⟨(dText l 1 256).1, (dNum l 20).1.1, 0, 0, [], (attC l).1.t, [], []⟩, (attFl l).or (flb (!(dMsg l 5).1.2)))
    else if (dNum l 20).1.1 = 6 then (⟨(dText l 1 256).1, (dNum l 20).1.1, 0, 0, [], tn0, (dFloats l 7).1, []⟩, attFl l)
    else if (dNum l 20).1.1 = 7 then (⟨(dText l 1 256).1, (dNum l 20).1.1, 0, 0, [], tn0, [], (dInts l 8).1⟩, attFl l)
    else (⟨(dText l 1 256).1, (dNum l 20).1.1, 0, 0, [], tn0, [], []⟩, (attFl l).or ⟨false, true, false⟩) := rfl
theorem dAttr_at {b : List UInt8} {fs : List Fld} {fl1 : Fl} {r : Atr × Fl} (h : dFields b = (fs, fl1)) (hr : dAttL fs = r) : dAttr b = (r.1, fl1.or r.2) := by
  unfold dAttr
  rw [h, ← hr]
theorem Held.rf2 {w : World} {S : Nat → Prop} {A : Option Addr} {n c : Nat} {fs : List Fld} (h : Held w S (datFs fs) (.slice A n c)) : RF w w.heap.size A fs := by
  obtain ⟨A', c', e, -, -, h4⟩ := h.rf
  injection e with e1 e2 e3
  subst e1
  exact h4
/-- behind 'if is' -/
def AtC (w : World) (g p pf pc : Nat) (F : Fl) (cs Fd : Array Value) (fs : List Fld) (fv : Value) (r : Ini × Fl) (wx : World) : Prop :=
  ∃ (x : Ini) (A1 : Option Addr) (n1 c1 : Nat) (A2 : Option Addr) (n2 c2 : Nat) (A3 : Option Addr) (n3 c3 : Nat) (A4 : Option Addr) (n4 c4 : Nat), ((F.or r.2).bad = false → x = r.1) ∧
    TS w wx g w.heap.size p 98 (F.or r.2) cs #[.string ⟨#[]⟩, .int .i64 0, .int .u32 0, .int .i64 0, .string ⟨#[]⟩, .int .i64 0, .slice none 0 0, .slice none 0 0, .slice none 0 0, .slice none 0 0, .slice none 0 0, .slice none 0 0] ∧ BK w wx p w.heap.size pf 108 Fd ∧ BK w wx p w.heap.size pc 57 #[.string ⟨x.name.toArray⟩, .int .i64 x.t.ty.toInt, .slice A1 n1 c1, .slice A2 n2 c2, .slice A3 n3 c3, .slice A4 n4 c4] ∧
    Held wx (DT w p w.heap.size) (datI x.t.dims) (.slice A1 n1 c1) ∧ Held wx (DT w p w.heap.size) (datF x.t.f) (.slice A2 n2 c2) ∧ Held wx (DT w p w.heap.size) (datI x.t.i) (.slice A3 n3 c3) ∧ Held wx (DT w p w.heap.size) (datO x.t.b) (.slice A4 n4 c4) ∧ Held wx (DT w p w.heap.size) (datFs fs) fv
section
variable {g : Nat} {f : Fl} {S : Nat → Prop} {v : Value} {w : World}
set_option maxRecDepth 100000 in
set_option maxHeartbeats 25600000 in
theorem attr_any {b : List UInt8} (hk : RdB w g f) (hv : Held w S (datB b) v) :
    Calls Tryz.prog 90 #[.pointer (some ⟨g, 0, none⟩), v] w (AttR w g f (dAttr b)) := by
  have hlt := hk.lt
  have hsm := dFields_sm b
  obtain ⟨A, c, rfl, -⟩ := hv.dv
  go_enter Tryz.func90, Tryz.ntmps90
  go_wp2_with fail
  refine Calls.mono (fields_any (hk.alloc _) (hv.alloc _)) ?_
  rintro e W1 ⟨u1, rfl, h1, k1, g1⟩
  obtain ⟨⟨fs, fl1⟩, hfs⟩ : ∃ r, dFields b = r := ⟨_, rfl⟩
  rw [hfs] at hsm h1 k1
  obtain ⟨A1, c1, rfl, -⟩ := h1.rf
  have HFS := Lib.hid hfs
  dsimp only at hsm h1 k1
  clear hv hfs
  go_wp2_with fail
  refine Calls.mono (name_any 1 k1 h1 hsm) ?_
  rintro e W2 ⟨rfl, k2, g2⟩
  have hz1 := g1.size
  have hz2 := g2.size
  obtain ⟨nm, hnm⟩ : ∃ nm, (dText fs 1 256).1 = nm := ⟨_, rfl⟩
  rw [hnm, show strV nm = .string ⟨nm.toArray⟩ from rfl]
  have HNM := Lib.hid hnm
  have ts2 := TS.start (cs := #[.string ⟨nm.toArray⟩, .int .i64 0, .int .u32 0, .int .i64 0, .string ⟨#[]⟩, .int .i64 0, .slice none 0 0, .slice none 0 0, .slice none 0 0, .slice none 0 0, .slice none 0 0, .slice none 0 0]) hlt rfl (grown_trans g1 g2) k2
  have dfs : Held W2 (DT w W2.heap.size w.heap.size) (datFs fs) (.slice A1 fs.length c1) := (h1.mono (fun b hb => by have := hb.1; have := hb.2; simp at *; exact ⟨by omega, by omega, by omega⟩)).rd (S := DT w W2.heap.size w.heap.size) (fun h => by have := h.1; omega) g2
  have dfs' := dfs.alloc (.cells #[.string ⟨nm.toArray⟩, .int .i64 0, .int .u32 0, .int .i64 0, .string ⟨#[]⟩, .int .i64 0, .slice none 0 0, .slice none 0 0, .slice none 0 0, .slice none 0 0, .slice none 0 0, .slice none 0 0] 98)
  clear dfs
  have dfs := dfs'
  have hgp : g ≠ W2.heap.size := by simp at hz1; omega
  have hpg : W2.heap.size ≠ g := by omega
  have hgq : g ≠ w.heap.size := by omega
  have hqg : w.heap.size ≠ g := by omega
  have hpq : W2.heap.size ≠ w.heap.size := by simp at hz1; omega
  have hqp : w.heap.size ≠ W2.heap.size := by omega
  clear dfs' hnm h1 hk k1 k2 g1 g2
  obtain ⟨⟨⟨fnum, fwire, fx, fdata⟩, fb, fe⟩, hlf⟩ : ∃ r, lastF 5 (sel 2 fs) = r := ⟨_, rfl⟩
  have HLF := Lib.hid hlf
  go_wp2_with fail
  refine Calls.mono (last_at (A := A1) (cap := c1) rfl hlf (by have := hsm.1; omega) (by have := hsm.2.1; omega) dfs.rf2) ?_
  rintro e W3 ⟨A3, n3, c3, rfl, -, -, hb3⟩
  dsimp only
  have ts3 := ts2.past hb3
  have dfs3 := dfs.past hb3
  have bf := BK.new ts3 108 #[.int .i64 fnum, .int .i64 fwire, .int .u64 (fx : Int), .slice A3 n3 c3]
  have ts3' := ts3.alloc (.cells #[.int .i64 fnum, .int .i64 fwire, .int .u64 (fx : Int), .slice A3 n3 c3] 108)
  have dfs' := dfs3.alloc (.cells #[.int .i64 fnum, .int .i64 fwire, .int .u64 (fx : Int), .slice A3 n3 c3] 108)
  clear dfs dfs3 ts3 ts2 hb3 hlf
  have dfs := dfs'
  clear dfs'
  go_wp2_with fail
  refine Calls.mono (no_any g _ fe _ ts3'.k) ?_
  rintro e W4 ⟨rfl, k4, g4⟩
  have ts4 := ts3'.call k4 g4
  have dfs' := dfs.dcall ts3' g4
  clear dfs
  have dfs := dfs'
  clear dfs'
  have bf' := bf.dcall ts3' g4
  clear bf
  have bf := bf'
  clear bf'
  clear k4 g4
  obtain ⟨⟨⟨iv, ib⟩, fli⟩, hiv⟩ : ∃ r, dNum fs 3 = r := ⟨_, rfl⟩
  have HIV := Lib.hid hiv
  obtain ⟨ii, hii⟩ : ∃ k, iv.toInt = k := ⟨_, rfl⟩
  have HII := Lib.hid hii
  go_wp2_with fail
  refine Calls.mono (number_any 3 ts4.k dfs hsm) ?_
  rintro e W5 ⟨rfl, k5, g5⟩
  have ts5 := ts4.call k5 g5
  have dfs' := dfs.dcall ts4 g5
  clear dfs
  have dfs := dfs'
  clear dfs'
  have bf' := bf.dcall ts4 g5
  clear bf
  have bf := bf'
  clear bf'
  rw [hiv] at ts5
  rw [hiv]
  dsimp only at ts5
  dsimp only
  rw [hii]
  clear hiv hii
  clear k5 g5
  obtain ⟨⟨tx, flt⟩, htx⟩ : ∃ r, dText fs 4 4096 = r := ⟨_, rfl⟩
  have HTX := Lib.hid htx
  go_wp2_with fail
  refine Calls.mono (text_any 4 4096 ts5.k dfs hsm) ?_
  rintro e W6 ⟨rfl, k6, g6⟩
  have ts6 := ts5.call k6 g6
  have dfs' := dfs.dcall ts5 g6
  clear dfs
  have dfs := dfs'
  clear dfs'
  have bf' := bf.dcall ts5 g6
  clear bf
  have bf := bf'
  clear bf'
  rw [htx] at ts6
  rw [htx]
  dsimp only at ts6
  dsimp only
  rw [show strV tx = .string ⟨tx.toArray⟩ from rfl]
  clear htx
  clear k6 g6
  have bc := BK.new ts6 57 #[.string ⟨#[]⟩, .int .i64 0, .slice none 0 0, .slice none 0 0, .slice none 0 0, .slice none 0 0]
  have tsa := ts6.alloc (.cells #[.string ⟨#[]⟩, .int .i64 0, .slice none 0 0, .slice none 0 0, .slice none 0 0, .slice none 0 0] 57)
  have bfa := bf.alloc (.cells #[.string ⟨#[]⟩, .int .i64 0, .slice none 0 0, .slice none 0 0, .slice none 0 0, .slice none 0 0] 57)
  have dfa := dfs.lt.alloc (.cells #[.string ⟨#[]⟩, .int .i64 0, .slice none 0 0, .slice none 0 0, .slice none 0 0, .slice none 0 0] 57)
  have dfs' := dfs.alloc (.cells #[.string ⟨#[]⟩, .int .i64 0, .slice none 0 0, .slice none 0 0, .slice none 0 0, .slice none 0 0] 57)
  have hpfc := bf.b.lt
  clear bf dfs
  have bf := bfa
  have dfs := dfs'
  clear bfa dfs'
  obtain ⟨⟨⟨bd, is⟩, flm⟩, hms⟩ : ∃ r, dMsg fs 5 = r := ⟨_, rfl⟩
  have HMS := Lib.hid hms
  go_wp2_with fail
  refine Calls.mono (message_any 5 tsa.k dfs hsm) ?_
  rintro e W7 ⟨u7, rfl, h7, k7, g7⟩
  have ts7 := tsa.call k7 g7
  have dfs' := dfs.dcall tsa g7
  clear dfs
  have dfs := dfs'
  clear dfs'
  have bf' := bf.dcall tsa g7
  clear bf
  have bf := bf'
  clear bf'
  have bc' := bc.dcall tsa g7
  clear bc
  have bc := bc'
  clear bc'
  rw [hms] at ts7 h7
  rw [hms]
  dsimp only at ts7 h7
  dsimp only
  have dfb := dfa.rd (g := g) (fun h => by have h1 : w.heap.size ≤ g := h.1.1; omega) g7
  have dbd := h7
  clear h7 hms dfa
  clear k7 g7
  obtain ⟨Ab, cb, rfl, -⟩ := Held.leaves dbd
  have HAC : Hid (attC fs = if is then dTensor bd else (⟨[], tn0⟩, fl0)) := Lib.hid (by unfold attC; rw [HMS.out])
  go_upto_if 51 with fail
  go_cut [] (fun wx => AtC w g W2.heap.size W3.heap.size W6.heap.size (((((((f.or fl1).or (dText fs 1 256).2).or (flb (!decide (fe = 0)))).or fli).or flt).or flm)) #[.string ⟨nm.toArray⟩, .int .i64 0, .int .u32 0, .int .i64 0, .string ⟨#[]⟩, .int .i64 0, .slice none 0 0, .slice none 0 0, .slice none 0 0, .slice none 0 0, .slice none 0 0, .slice none 0 0] #[.int .i64 fnum, .int .i64 fwire, .int .u64 (fx : Int), .slice A3 n3 c3] fs (.slice A1 fs.length c1) (if is then dTensor bd else (⟨[], tn0⟩, fl0)) wx)
  case first =>
    cases is
    case false =>
      have HTS := Lib.hid ts7
      have HBF := Lib.hid bf
      have HBC := Lib.hid bc
      have HDF := Lib.hid dfs
      go_wp2
      go_meet
      case rel => exact ⟨⟨[], tn0⟩, none, 0, 0, none, 0, 0, none, 0, 0, none, 0, 0, fun _ => rfl, HTS.out.to (Fl.or_z _).symm, HBF.out, HBC.out, Held.nil _ _ _ _ _ (by unfold maxLen; omega), Held.nil _ _ _ _ _ (by unfold maxLen; omega), Held.nil _ _ _ _ _ (by unfold maxLen; omega), Held.nil _ _ _ _ _ (by unfold maxLen; omega), HDF.out⟩
    case true =>
      go_wp2_with fail
      refine Calls.mono (tensor_any ts7.k dbd) ?_
      rintro e W8 ⟨x, B1, m1, d1, B2, m2, d2, B3, m3, d3, B4, m4, d4, himp, rfl, e1, e2, e3, e4, k8, g8⟩
      have ts8 := ts7.call k8 g8
      have bf8 := bf.dcall ts7 g8
      have bc8 := bc.dcall ts7 g8
      have df8 := dfb.rd (g := g) (fun h => by have h1 : w.heap.size ≤ g := h.1.1; omega) g8
      have hW6 : W6.heap.size < W7.heap.size := bc.b.lt
      have hW2 : W2.heap.size < W7.heap.size := ts7.bp.lt
      have hW0 : w.heap.size < W7.heap.size := ts7.bq.lt
      have E1 := Lib.hid ((e1.fin6o (z := W6.heap.size) (c0 := .string ⟨x.name.toArray⟩) (c1 := .int .i64 x.t.ty.toInt) (c2 := .slice B1 m1 d1) (c3 := .slice B2 m2 d2) (c4 := .slice B3 m3 d3) (c5 := .slice B4 m4 d4) (fun h => by have := h.1; omega)).mono (S' := DT w W2.heap.size w.heap.size) (fun b hb => by have := hb.1; exact ⟨by omega, by omega, by omega⟩))
      have E2 := Lib.hid ((e2.fin6o (z := W6.heap.size) (c0 := .string ⟨x.name.toArray⟩) (c1 := .int .i64 x.t.ty.toInt) (c2 := .slice B1 m1 d1) (c3 := .slice B2 m2 d2) (c4 := .slice B3 m3 d3) (c5 := .slice B4 m4 d4) (fun h => by have := h.1; omega)).mono (S' := DT w W2.heap.size w.heap.size) (fun b hb => by have := hb.1; exact ⟨by omega, by omega, by omega⟩))
      have E3 := Lib.hid ((e3.fin6o (z := W6.heap.size) (c0 := .string ⟨x.name.toArray⟩) (c1 := .int .i64 x.t.ty.toInt) (c2 := .slice B1 m1 d1) (c3 := .slice B2 m2 d2) (c4 := .slice B3 m3 d3) (c5 := .slice B4 m4 d4) (fun h => by have := h.1; omega)).mono (S' := DT w W2.heap.size w.heap.size) (fun b hb => by have := hb.1; exact ⟨by omega, by omega, by omega⟩))
      have E4 := Lib.hid ((e4.fin6o (z := W6.heap.size) (c0 := .string ⟨x.name.toArray⟩) (c1 := .int .i64 x.t.ty.toInt) (c2 := .slice B1 m1 d1) (c3 := .slice B2 m2 d2) (c4 := .slice B3 m3 d3) (c5 := .slice B4 m4 d4) (fun h => by have := h.1; omega)).mono (S' := DT w W2.heap.size w.heap.size) (fun b hb => by have := hb.1; exact ⟨by omega, by omega, by omega⟩))
      have E5 := Lib.hid ((df8.fin6o (z := W6.heap.size) (c0 := .string ⟨x.name.toArray⟩) (c1 := .int .i64 x.t.ty.toInt) (c2 := .slice B1 m1 d1) (c3 := .slice B2 m2 d2) (c4 := .slice B3 m3 d3) (c5 := .slice B4 m4 d4) (fun h => Nat.lt_irrefl _ h.2)).mono (S' := DT w W2.heap.size w.heap.size) (fun b hb => hb.1))
      have E6 := Lib.hid (ts8.fin6x bc8 (c0 := .string ⟨x.name.toArray⟩) (c1 := .int .i64 x.t.ty.toInt) (c2 := .slice B1 m1 d1) (c3 := .slice B2 m2 d2) (c4 := .slice B3 m3 d3) (c5 := .slice B4 m4 d4))
      have E7 := Lib.hid (bf8.fin6o (z := W6.heap.size) (c0 := .string ⟨x.name.toArray⟩) (c1 := .int .i64 x.t.ty.toInt) (c2 := .slice B1 m1 d1) (c3 := .slice B2 m2 d2) (c4 := .slice B3 m3 d3) (c5 := .slice B4 m4 d4) (by omega))
      have HIM := Lib.hid himp
      obtain ⟨x0, x1, x2, x3, x4, x5, y0, y1, y2, y3, y4, y5, lx⟩ := blkc6 bc8.b
      clear himp e1 e2 e3 e4 df8 ts8 bc8 bf8 k8 g8
      go_wp2
      go_meet
      case rel => exact ⟨x, B1, m1, d1, B2, m2, d2, B3, m3, d3, B4, m4, d4, HIM.out, E6.out.1, E7.out, E6.out.2, E1.out, E2.out, E3.out, E4.out, E5.out⟩
  case rest =>
    obtain ⟨x, B1, m1, d1, B2, m2, d2, B3, m3, d3, B4, m4, d4, himp, tsc, bf9, bc9, f1, f2, f3, f4, dfs9⟩ := hcut
    obtain ⟨W8, hW8⟩ : ∃ W, W = wc := ⟨_, rfl⟩
    subst hW8
    have HIM := Lib.hid himp
    clear himp ts7 bf bc dfs dfb dbd
    have dfs := dfs9
    have bf := bf9
    have bc := bc9
    clear dfs9 bf9 bc9
    obtain ⟨⟨lf, flf⟩, hlf⟩ : ∃ r, dFloats fs 7 = r := ⟨_, rfl⟩
    have HL7 := Lib.hid hlf
    have hn7 := dFloats_len hsm 7
    rw [hlf] at hn7
    dsimp only at hn7
    go_wp2_with fail
    refine Calls.mono (floats_any 7 tsc.k dfs hsm) ?_
    rintro e W9 ⟨u9, rfl, h9, k9, g9⟩
    have ts9 := tsc.call k9 g9
    have dfs' := dfs.dcall tsc g9
    clear dfs
    have dfs := dfs'
    clear dfs'
    have bf' := bf.dcall tsc g9
    clear bf
    have bf := bf'
    clear bf'
    have bc' := bc.dcall tsc g9
    clear bc
    have bc := bc'
    clear bc'
    have f1' := f1.dcall tsc g9
    clear f1
    have f1 := f1'
    clear f1'
    have f2' := f2.dcall tsc g9
    clear f2
    have f2 := f2'
    clear f2'
    have f3' := f3.dcall tsc g9
    clear f3
    have f3 := f3'
    clear f3'
    have f4' := f4.dcall tsc g9
    clear f4
    have f4 := f4'
    clear f4'
    rw [hlf] at ts9 h9
    dsimp only at ts9 h9
    have dF := h9.dt tsc
    clear h9 hlf
    obtain ⟨AF, cF, rfl, -⟩ := Held.leaves dF
    clear k9 g9
    obtain ⟨⟨li, fli8⟩, hli⟩ : ∃ r, dInts fs 8 = r := ⟨_, rfl⟩
    have HL8 := Lib.hid hli
    have hn8 := dInts_len hsm 8
    rw [hli] at hn8
    dsimp only at hn8
    go_wp2_with fail
    refine Calls.mono (oints_any 8 ts9.k dfs hsm) ?_
    rintro e W10 ⟨u10, rfl, h10, k10, g10⟩
    have ts10 := ts9.call k10 g10
    have dfs' := dfs.dcall ts9 g10
    clear dfs
    have dfs := dfs'
    clear dfs'
    have bf' := bf.dcall ts9 g10
    clear bf
    have bf := bf'
    clear bf'
    have bc' := bc.dcall ts9 g10
    clear bc
    have bc := bc'
    clear bc'
    have f1' := f1.dcall ts9 g10
    clear f1
    have f1 := f1'
    clear f1'
    have f2' := f2.dcall ts9 g10
    clear f2
    have f2 := f2'
    clear f2'
    have f3' := f3.dcall ts9 g10
    clear f3
    have f3 := f3'
    clear f3'
    have f4' := f4.dcall ts9 g10
    clear f4
    have f4 := f4'
    clear f4'
    have dF' := dF.dcall ts9 g10
    clear dF
    have dF := dF'
    clear dF'
    rw [hli] at ts10 h10
    dsimp only at ts10 h10
    have dL := h10.dt ts9
    clear h10 hli
    obtain ⟨AL, cL, rfl, -⟩ := Held.leaves dL
    clear k10 g10
    obtain ⟨b0_1, b1_1, b2_1, B0_1, B1_1, B2_1, k0_1, k1_1, k2_1, z0_1, z1_1, z2_1, lg_1⟩ := ts10.fl
    obtain ⟨c1, hc1⟩ : ∃ c, decide ((4096 : Int) < (lf.length : Int)) = c := ⟨_, rfl⟩
    obtain ⟨c2, hc2⟩ : ∃ c, decide ((4096 : Int) < (li.length : Int)) = c := ⟨_, rfl⟩
    have HC1 : Hid (decide (4096 < lf.length) = c1) := Lib.hid (by rw [← hc1]; exact decide_eq_decide.2 (by omega))
    have HC2 : Hid (decide (4096 < li.length) = c2) := Lib.hid (by rw [← hc2]; exact decide_eq_decide.2 (by omega))
    go_upto_region 12 with fail
    go_cut [] (fun wx => wx = W10.setCell ⟨g, 2, none⟩ (.bool (b2_1 || (c1 || c2))))
    case first =>
      as_aux_lemma =>
        have hw : b2_1 = true ∨ (b2_1 = false ∧ c1 = true) ∨ (b2_1 = false ∧ c1 = false ∧ c2 = true) ∨ (b2_1 = false ∧ c1 = false ∧ c2 = false) := by
          clear hc1 hc2
          cases b2_1 <;> cases c1 <;> cases c2 <;> simp
        rcases hw with rfl | ⟨rfl, rfl⟩ | ⟨rfl, rfl, rfl⟩ | ⟨rfl, rfl, rfl⟩
        all_goals
          try (have hq1 := of_decide_eq_true hc1)
          try (have hq1 := of_decide_eq_false hc1)
          try (have hq2 := of_decide_eq_true hc2)
          try (have hq2 := of_decide_eq_false hc2)
          go_wp2
          go_meet
          case rel => simp
    case rest =>
      focus
        have ts11 := ts10.or2 (c1 || c2) (b := (b2_1 || (c1 || c2))) (by rw [B2_1.out])
        have dfs' := dfs.dG hlt 2 (.bool (b2_1 || (c1 || c2)))
        clear dfs
        have dfs := dfs'
        clear dfs'
        have bf' := bf.dG hlt 2 (.bool (b2_1 || (c1 || c2)))
        clear bf
        have bf := bf'
        clear bf'
        have bc' := bc.dG hlt 2 (.bool (b2_1 || (c1 || c2)))
        clear bc
        have bc := bc'
        clear bc'
        have f1' := f1.dG hlt 2 (.bool (b2_1 || (c1 || c2)))
        clear f1
        have f1 := f1'
        clear f1'
        have f2' := f2.dG hlt 2 (.bool (b2_1 || (c1 || c2)))
        clear f2
        have f2 := f2'
        clear f2'
        have f3' := f3.dG hlt 2 (.bool (b2_1 || (c1 || c2)))
        clear f3
        have f3 := f3'
        clear f3'
        have f4' := f4.dG hlt 2 (.bool (b2_1 || (c1 || c2)))
        clear f4
        have f4 := f4'
        clear f4'
        have dF' := dF.dG hlt 2 (.bool (b2_1 || (c1 || c2)))
        clear dF
        have dF := dF'
        clear dF'
        have dL' := dL.dG hlt 2 (.bool (b2_1 || (c1 || c2)))
        clear dL
        have dL := dL'
        clear dL'
        rw [← hcut] at ts11 dfs bf bc f1 f2 f3 f4 dF dL
        clear hcut
        clear k0_1 k1_1 k2_1 z0_1 z1_1 z2_1 lg_1
        obtain ⟨W11, hWk⟩ : ∃ W, W = wc := ⟨_, rfl⟩
        subst hWk
        clear hc1 hc2
        obtain ⟨⟨⟨kd, kb⟩, flk⟩, hkd⟩ : ∃ r, dNum fs 20 = r := ⟨_, rfl⟩
        have HKD := Lib.hid hkd
        obtain ⟨ki, hki⟩ : ∃ k, kd.toInt = k := ⟨_, rfl⟩
        have HKI := Lib.hid hki
        go_wp2_with fail
        refine Calls.mono (number_any 20 ts11.k dfs hsm) ?_
        rintro e W12 ⟨rfl, k12, g12⟩
        have ts12 := ts11.call k12 g12
        have dfs' := dfs.dcall ts11 g12
        clear dfs
        have dfs := dfs'
        clear dfs'
        have bf' := bf.dcall ts11 g12
        clear bf
        have bf := bf'
        clear bf'
        have bc' := bc.dcall ts11 g12
        clear bc
        have bc := bc'
        clear bc'
        have f1' := f1.dcall ts11 g12
        clear f1
        have f1 := f1'
        clear f1'
        have f2' := f2.dcall ts11 g12
        clear f2
        have f2 := f2'
        clear f2'
        have f3' := f3.dcall ts11 g12
        clear f3
        have f3 := f3'
        clear f3'
        have f4' := f4.dcall ts11 g12
        clear f4
        have f4 := f4'
        clear f4'
        have dF' := dF.dcall ts11 g12
        clear dF
        have dF := dF'
        clear dF'
        have dL' := dL.dcall ts11 g12
        clear dL
        have dL := dL'
        clear dL'
        rw [hkd] at ts12
        rw [hkd]
        dsimp only at ts12
        dsimp only
        rw [hki]
        clear hkd hki
        clear k12 g12
        have he : ((((((((((f.or fl1).or (dText fs 1 256).2).or (flb (!decide (fe = 0)))).or fli).or flt).or flm).or (if is then dTensor bd else (⟨[], tn0⟩, fl0)).2).or flf).or fli8).or ⟨false, false, c1 || c2⟩).or flk = f.or (fl1.or (attFl fs)) := by
          unfold attFl
          rw [HLF.out, HIV.out, HTX.out, HMS.out, HAC.out, HL7.out, HL8.out, HKD.out]
          dsimp only
          rw [HC1.out, HC2.out]
          ac_rfl
        have HIMK : Hid ((f.or (fl1.or (attFl fs))).bad = false → x = (attC fs).1) := Lib.hid (fun h => by
          rw [← he] at h
          rw [HAC.out]
          exact HIM.out (bad_left (bad_left (bad_left (bad_left h)))))
        have tsk := ts12.to he
        clear he ts12 HIM
        obtain ⟨fy, hfy⟩ : ∃ y : Nat, fx % 4294967296 = y := ⟨_, rfl⟩
        have hw32 : IntKind.u32.wrap (fx : Int) = (fy : Int) := by rw [wrap32, hfy]
        have HFY : Hid ((UInt32.ofNat fx).toNat = fy) := Lib.hid (by rw [← hfy]; simp)
        clear hfy
        have HAT := Lib.hid (dAttr_at HFS.out (dAttL_eq fs))
        obtain ⟨p0_2, p1_2, p2_2, p3_2, p4_2, p5_2, p6_2, p7_2, p8_2, p9_2, p10_2, p11_2, y0_2, y1_2, y2_2, y3_2, y4_2, y5_2, y6_2, y7_2, y8_2, y9_2, y10_2, y11_2, lp_2⟩ := blkc12 tsk.bp
        obtain ⟨q0_2, q1_2, q2_2, q3_2, q4_2, q5_2, q6_2, q7_2, q8_2, q9_2, q10_2, q11_2, x0_2, x1_2, x2_2, x3_2, x4_2, x5_2, x6_2, x7_2, x8_2, x9_2, x10_2, x11_2, lq_2⟩ := blkc12 tsk.bq
        have tp3 := tsk.setP 1 (.int .i64 ki)
        have dfs' := dfs.dP 1 (.int .i64 ki)
        clear dfs
        have dfs := dfs'
        clear dfs'
        have bf' := bf.dP 1 (.int .i64 ki)
        clear bf
        have bf := bf'
        clear bf'
        have bc' := bc.dP 1 (.int .i64 ki)
        clear bc
        have bc := bc'
        clear bc'
        have f1' := f1.dP 1 (.int .i64 ki)
        clear f1
        have f1 := f1'
        clear f1'
        have f2' := f2.dP 1 (.int .i64 ki)
        clear f2
        have f2 := f2'
        clear f2'
        have f3' := f3.dP 1 (.int .i64 ki)
        clear f3
        have f3 := f3'
        clear f3'
        have f4' := f4.dP 1 (.int .i64 ki)
        clear f4
        have f4 := f4'
        clear f4'
        have dF' := dF.dP 1 (.int .i64 ki)
        clear dF
        have dF := dF'
        clear dF'
        have dL' := dL.dP 1 (.int .i64 ki)
        clear dL
        have dL := dL'
        clear dL'
        rcases kd_cases kd with rfl | rfl | rfl | rfl | rfl | rfl | rfl | ⟨n0, n1, n2, n3, n4, n6, n7⟩
        ·
          focus
            obtain rfl : ki = 0 := HKI.out.symm
            obtain ⟨b0_4, b1_4, b2_4, B0_4, B1_4, B2_4, k0_4, k1_4, k2_4, z0_4, z1_4, z2_4, lg_4⟩ := tp3.fl
            obtain ⟨p0_4, p1_4, p2_4, p3_4, p4_4, p5_4, p6_4, p7_4, p8_4, p9_4, p10_4, p11_4, y0_4, y1_4, y2_4, y3_4, y4_4, y5_4, y6_4, y7_4, y8_4, y9_4, y10_4, y11_4, lp_4⟩ := blkc12 tp3.bp
            obtain ⟨q0_4, q1_4, q2_4, q3_4, q4_4, q5_4, q6_4, q7_4, q8_4, q9_4, q10_4, q11_4, x0_4, x1_4, x2_4, x3_4, x4_4, x5_4, x6_4, x7_4, x8_4, x9_4, x10_4, x11_4, lq_4⟩ := blkc12 tp3.bq
            have HE : Hid (dAttr b = (⟨nm, 0, 0, 0, [], tn0, [], []⟩, fl1.or ((attFl fs).or (flb true)))) := Lib.hid (by
              rw [HAT.out, HKD.out]
              dsimp only
              rw [if_pos rfl]
              simp only [HNM.out, HLF.out, HIV.out, HTX.out, HMS.out, HL7.out, HL8.out])
            clear HAT
            have tse := tp3.or0 true (b := true) (by rw [Bool.or_true])
            go_wp2
            refine bodyPost_ret (att_out _ _ w.heap.size _ _ _ _ _ _ _ _ _ _ _ _ rfl (TS.fin12 tse).bq) rfl ?_
            refine ⟨⟨nm, 0, 0, 0, [], tn0, [], []⟩, _, _, _, _, _, _, _, _, _, _, _, _, _, _, _, _, _, _, ?_, rfl, Held.nil _ _ _ _ _ (by unfold maxLen; omega), Held.nil _ _ _ _ _ (by unfold maxLen; omega), Held.nil _ _ _ _ _ (by unfold maxLen; omega), Held.nil _ _ _ _ _ (by unfold maxLen; omega), Held.nil _ _ _ _ _ (by unfold maxLen; omega), Held.nil _ _ _ _ _ (by unfold maxLen; omega), ?_, (TS.fin12 tse).gr⟩
            · intro _; rw [HE.out]
            · rw [HE.out]; exact ((TS.fin12 tse).k).to (by ac_rfl)
        ·
          focus
            obtain rfl : ki = 1 := HKI.out.symm
            obtain ⟨b0_4, b1_4, b2_4, B0_4, B1_4, B2_4, k0_4, k1_4, k2_4, z0_4, z1_4, z2_4, lg_4⟩ := tp3.fl
            obtain ⟨p0_4, p1_4, p2_4, p3_4, p4_4, p5_4, p6_4, p7_4, p8_4, p9_4, p10_4, p11_4, y0_4, y1_4, y2_4, y3_4, y4_4, y5_4, y6_4, y7_4, y8_4, y9_4, y10_4, y11_4, lp_4⟩ := blkc12 tp3.bp
            obtain ⟨q0_4, q1_4, q2_4, q3_4, q4_4, q5_4, q6_4, q7_4, q8_4, q9_4, q10_4, q11_4, x0_4, x1_4, x2_4, x3_4, x4_4, x5_4, x6_4, x7_4, x8_4, x9_4, x10_4, x11_4, lq_4⟩ := blkc12 tp3.bq
            have HE : Hid (dAttr b = (⟨nm, 1, UInt32.ofNat fx, 0, [], tn0, [], []⟩, fl1.or (attFl fs))) := Lib.hid (by
              rw [HAT.out, HKD.out]
              dsimp only
              rw [if_neg (by decide), if_pos rfl]
              simp only [HNM.out, HLF.out, HIV.out, HTX.out, HMS.out, HL7.out, HL8.out])
            clear HAT
            obtain ⟨v0, v1, v2, v3⟩ := blk4 bf.b
            have lpf := bf.b.lt
            go_wp2
            have tp5 := tp3.setP 2 (.int .u32 (fy : Int))
            have dfs' := dfs.dP 2 (.int .u32 (fy : Int))
            clear dfs
            have dfs := dfs'
            clear dfs'
            have bf' := bf.dP 2 (.int .u32 (fy : Int))
            clear bf
            have bf := bf'
            clear bf'
            have bc' := bc.dP 2 (.int .u32 (fy : Int))
            clear bc
            have bc := bc'
            clear bc'
            have f1' := f1.dP 2 (.int .u32 (fy : Int))
            clear f1
            have f1 := f1'
            clear f1'
            have f2' := f2.dP 2 (.int .u32 (fy : Int))
            clear f2
            have f2 := f2'
            clear f2'
            have f3' := f3.dP 2 (.int .u32 (fy : Int))
            clear f3
            have f3 := f3'
            clear f3'
            have f4' := f4.dP 2 (.int .u32 (fy : Int))
            clear f4
            have f4 := f4'
            clear f4'
            have dF' := dF.dP 2 (.int .u32 (fy : Int))
            clear dF
            have dF := dF'
            clear dF'
            have dL' := dL.dP 2 (.int .u32 (fy : Int))
            clear dL
            have dL := dL'
            clear dL'
            refine bodyPost_ret (att_out _ _ w.heap.size _ _ _ _ _ _ _ _ _ _ _ _ rfl (TS.fin12 tp5).bq) rfl ?_
            refine ⟨⟨nm, 1, UInt32.ofNat fx, 0, [], tn0, [], []⟩, _, _, _, _, _, _, _, _, _, _, _, _, _, _, _, _, _, _, ?_, (by rw [HFY.out]; rfl), Held.nil _ _ _ _ _ (by unfold maxLen; omega), Held.nil _ _ _ _ _ (by unfold maxLen; omega), Held.nil _ _ _ _ _ (by unfold maxLen; omega), Held.nil _ _ _ _ _ (by unfold maxLen; omega), Held.nil _ _ _ _ _ (by unfold maxLen; omega), Held.nil _ _ _ _ _ (by unfold maxLen; omega), ?_, (TS.fin12 tp5).gr⟩
            · intro _; rw [HE.out]
            · rw [HE.out]; exact ((TS.fin12 tp5).k).to (by ac_rfl)
        ·
          focus
            obtain rfl : ki = 2 := HKI.out.symm
            obtain ⟨b0_4, b1_4, b2_4, B0_4, B1_4, B2_4, k0_4, k1_4, k2_4, z0_4, z1_4, z2_4, lg_4⟩ := tp3.fl
            obtain ⟨p0_4, p1_4, p2_4, p3_4, p4_4, p5_4, p6_4, p7_4, p8_4, p9_4, p10_4, p11_4, y0_4, y1_4, y2_4, y3_4, y4_4, y5_4, y6_4, y7_4, y8_4, y9_4, y10_4, y11_4, lp_4⟩ := blkc12 tp3.bp
            obtain ⟨q0_4, q1_4, q2_4, q3_4, q4_4, q5_4, q6_4, q7_4, q8_4, q9_4, q10_4, q11_4, x0_4, x1_4, x2_4, x3_4, x4_4, x5_4, x6_4, x7_4, x8_4, x9_4, x10_4, x11_4, lq_4⟩ := blkc12 tp3.bq
            have HE : Hid (dAttr b = (⟨nm, 2, 0, iv, [], tn0, [], []⟩, fl1.or (attFl fs))) := Lib.hid (by
              rw [HAT.out, HKD.out]
              dsimp only
              rw [if_neg (by decide), if_neg (by decide), if_pos rfl]
              simp only [HNM.out, HLF.out, HIV.out, HTX.out, HMS.out, HL7.out, HL8.out])
            clear HAT
            go_wp2
            have tp5 := tp3.setP 3 (.int .i64 ii)
            have dfs' := dfs.dP 3 (.int .i64 ii)
            clear dfs
            have dfs := dfs'
            clear dfs'
            have bf' := bf.dP 3 (.int .i64 ii)
            clear bf
            have bf := bf'
            clear bf'
            have bc' := bc.dP 3 (.int .i64 ii)
            clear bc
            have bc := bc'
            clear bc'
            have f1' := f1.dP 3 (.int .i64 ii)
            clear f1
            have f1 := f1'
            clear f1'
            have f2' := f2.dP 3 (.int .i64 ii)
            clear f2
            have f2 := f2'
            clear f2'
            have f3' := f3.dP 3 (.int .i64 ii)
            clear f3
            have f3 := f3'
            clear f3'
            have f4' := f4.dP 3 (.int .i64 ii)
            clear f4
            have f4 := f4'
            clear f4'
            have dF' := dF.dP 3 (.int .i64 ii)
            clear dF
            have dF := dF'
            clear dF'
            have dL' := dL.dP 3 (.int .i64 ii)
            clear dL
            have dL := dL'
            clear dL'
            refine bodyPost_ret (att_out _ _ w.heap.size _ _ _ _ _ _ _ _ _ _ _ _ rfl (TS.fin12 tp5).bq) rfl ?_
            refine ⟨⟨nm, 2, 0, iv, [], tn0, [], []⟩, _, _, _, _, _, _, _, _, _, _, _, _, _, _, _, _, _, _, ?_, (by rw [HII.out]; rfl), Held.nil _ _ _ _ _ (by unfold maxLen; omega), Held.nil _ _ _ _ _ (by unfold maxLen; omega), Held.nil _ _ _ _ _ (by unfold maxLen; omega), Held.nil _ _ _ _ _ (by unfold maxLen; omega), Held.nil _ _ _ _ _ (by unfold maxLen; omega), Held.nil _ _ _ _ _ (by unfold maxLen; omega), ?_, (TS.fin12 tp5).gr⟩
            · intro _; rw [HE.out]
            · rw [HE.out]; exact ((TS.fin12 tp5).k).to (by ac_rfl)
        ·
          focus
            obtain rfl : ki = 3 := HKI.out.symm
            obtain ⟨b0_4, b1_4, b2_4, B0_4, B1_4, B2_4, k0_4, k1_4, k2_4, z0_4, z1_4, z2_4, lg_4⟩ := tp3.fl
            obtain ⟨p0_4, p1_4, p2_4, p3_4, p4_4, p5_4, p6_4, p7_4, p8_4, p9_4, p10_4, p11_4, y0_4, y1_4, y2_4, y3_4, y4_4, y5_4, y6_4, y7_4, y8_4, y9_4, y10_4, y11_4, lp_4⟩ := blkc12 tp3.bp
            obtain ⟨q0_4, q1_4, q2_4, q3_4, q4_4, q5_4, q6_4, q7_4, q8_4, q9_4, q10_4, q11_4, x0_4, x1_4, x2_4, x3_4, x4_4, x5_4, x6_4, x7_4, x8_4, x9_4, x10_4, x11_4, lq_4⟩ := blkc12 tp3.bq
            have HE : Hid (dAttr b = (⟨nm, 3, 0, 0, tx, tn0, [], []⟩, fl1.or (attFl fs))) := Lib.hid (by
              rw [HAT.out, HKD.out]
              dsimp only
              rw [if_neg (by decide), if_neg (by decide), if_neg (by decide), if_pos rfl]
              simp only [HNM.out, HLF.out, HIV.out, HTX.out, HMS.out, HL7.out, HL8.out])
            clear HAT
            go_wp2
            have tp5 := tp3.setP 4 (.string ⟨tx.toArray⟩)
            have dfs' := dfs.dP 4 (.string ⟨tx.toArray⟩)
            clear dfs
            have dfs := dfs'
            clear dfs'
            have bf' := bf.dP 4 (.string ⟨tx.toArray⟩)
            clear bf
            have bf := bf'
            clear bf'
            have bc' := bc.dP 4 (.string ⟨tx.toArray⟩)
            clear bc
            have bc := bc'
            clear bc'
            have f1' := f1.dP 4 (.string ⟨tx.toArray⟩)
            clear f1
            have f1 := f1'
            clear f1'
            have f2' := f2.dP 4 (.string ⟨tx.toArray⟩)
            clear f2
            have f2 := f2'
            clear f2'
            have f3' := f3.dP 4 (.string ⟨tx.toArray⟩)
            clear f3
            have f3 := f3'
            clear f3'
            have f4' := f4.dP 4 (.string ⟨tx.toArray⟩)
            clear f4
            have f4 := f4'
            clear f4'
            have dF' := dF.dP 4 (.string ⟨tx.toArray⟩)
            clear dF
            have dF := dF'
            clear dF'
            have dL' := dL.dP 4 (.string ⟨tx.toArray⟩)
            clear dL
            have dL := dL'
            clear dL'
            refine bodyPost_ret (att_out _ _ w.heap.size _ _ _ _ _ _ _ _ _ _ _ _ rfl (TS.fin12 tp5).bq) rfl ?_
            refine ⟨⟨nm, 3, 0, 0, tx, tn0, [], []⟩, _, _, _, _, _, _, _, _, _, _, _, _, _, _, _, _, _, _, ?_, rfl, Held.nil _ _ _ _ _ (by unfold maxLen; omega), Held.nil _ _ _ _ _ (by unfold maxLen; omega), Held.nil _ _ _ _ _ (by unfold maxLen; omega), Held.nil _ _ _ _ _ (by unfold maxLen; omega), Held.nil _ _ _ _ _ (by unfold maxLen; omega), Held.nil _ _ _ _ _ (by unfold maxLen; omega), ?_, (TS.fin12 tp5).gr⟩
            · intro _; rw [HE.out]
            · rw [HE.out]; exact ((TS.fin12 tp5).k).to (by ac_rfl)
        ·
          focus
            obtain rfl : ki = 4 := HKI.out.symm
            obtain ⟨b0_4, b1_4, b2_4, B0_4, B1_4, B2_4, k0_4, k1_4, k2_4, z0_4, z1_4, z2_4, lg_4⟩ := tp3.fl
            obtain ⟨p0_4, p1_4, p2_4, p3_4, p4_4, p5_4, p6_4, p7_4, p8_4, p9_4, p10_4, p11_4, y0_4, y1_4, y2_4, y3_4, y4_4, y5_4, y6_4, y7_4, y8_4, y9_4, y10_4, y11_4, lp_4⟩ := blkc12 tp3.bp
            obtain ⟨q0_4, q1_4, q2_4, q3_4, q4_4, q5_4, q6_4, q7_4, q8_4, q9_4, q10_4, q11_4, x0_4, x1_4, x2_4, x3_4, x4_4, x5_4, x6_4, x7_4, x8_4, x9_4, x10_4, x11_4, lq_4⟩ := blkc12 tp3.bq
            have HE : Hid (dAttr b = (⟨nm, 4, 0, 0, [], (attC fs).1.t, [], []⟩, fl1.or ((attFl fs).or (flb (!is))))) := Lib.hid (by
              rw [HAT.out, HKD.out]
              dsimp only
              rw [if_neg (by decide), if_neg (by decide), if_neg (by decide), if_neg (by decide), if_pos rfl]
              simp only [HNM.out, HLF.out, HIV.out, HTX.out, HMS.out, HL7.out, HL8.out])
            clear HAT
            obtain ⟨v0, v1, v2, v3, v4, v5, r0, r1, r2, r3, r4, r5, lpc⟩ := blkc6 bc.b
            have tp5 := tp3.setP 5 (.int .i64 x.t.ty.toInt)
            have dfs' := dfs.dP 5 (.int .i64 x.t.ty.toInt)
            clear dfs
            have dfs := dfs'
            clear dfs'
            have bf' := bf.dP 5 (.int .i64 x.t.ty.toInt)
            clear bf
            have bf := bf'
            clear bf'
            have bc' := bc.dP 5 (.int .i64 x.t.ty.toInt)
            clear bc
            have bc := bc'
            clear bc'
            have f1' := f1.dP 5 (.int .i64 x.t.ty.toInt)
            clear f1
            have f1 := f1'
            clear f1'
            have f2' := f2.dP 5 (.int .i64 x.t.ty.toInt)
            clear f2
            have f2 := f2'
            clear f2'
            have f3' := f3.dP 5 (.int .i64 x.t.ty.toInt)
            clear f3
            have f3 := f3'
            clear f3'
            have f4' := f4.dP 5 (.int .i64 x.t.ty.toInt)
            clear f4
            have f4 := f4'
            clear f4'
            have dF' := dF.dP 5 (.int .i64 x.t.ty.toInt)
            clear dF
            have dF := dF'
            clear dF'
            have dL' := dL.dP 5 (.int .i64 x.t.ty.toInt)
            clear dL
            have dL := dL'
            clear dL'
            have tp6 := tp5.setP 6 (.slice B1 m1 d1)
            have dfs' := dfs.dP 6 (.slice B1 m1 d1)
            clear dfs
            have dfs := dfs'
            clear dfs'
            have bf' := bf.dP 6 (.slice B1 m1 d1)
            clear bf
            have bf := bf'
            clear bf'
            have bc' := bc.dP 6 (.slice B1 m1 d1)
            clear bc
            have bc := bc'
            clear bc'
            have f1' := f1.dP 6 (.slice B1 m1 d1)
            clear f1
            have f1 := f1'
            clear f1'
            have f2' := f2.dP 6 (.slice B1 m1 d1)
            clear f2
            have f2 := f2'
            clear f2'
            have f3' := f3.dP 6 (.slice B1 m1 d1)
            clear f3
            have f3 := f3'
            clear f3'
            have f4' := f4.dP 6 (.slice B1 m1 d1)
            clear f4
            have f4 := f4'
            clear f4'
            have dF' := dF.dP 6 (.slice B1 m1 d1)
            clear dF
            have dF := dF'
            clear dF'
            have dL' := dL.dP 6 (.slice B1 m1 d1)
            clear dL
            have dL := dL'
            clear dL'
            have tp7 := tp6.setP 7 (.slice B2 m2 d2)
            have dfs' := dfs.dP 7 (.slice B2 m2 d2)
            clear dfs
            have dfs := dfs'
            clear dfs'
            have bf' := bf.dP 7 (.slice B2 m2 d2)
            clear bf
            have bf := bf'
            clear bf'
            have bc' := bc.dP 7 (.slice B2 m2 d2)
            clear bc
            have bc := bc'
            clear bc'
            have f1' := f1.dP 7 (.slice B2 m2 d2)
            clear f1
            have f1 := f1'
            clear f1'
            have f2' := f2.dP 7 (.slice B2 m2 d2)
            clear f2
            have f2 := f2'
            clear f2'
            have f3' := f3.dP 7 (.slice B2 m2 d2)
            clear f3
            have f3 := f3'
            clear f3'
            have f4' := f4.dP 7 (.slice B2 m2 d2)
            clear f4
            have f4 := f4'
            clear f4'
            have dF' := dF.dP 7 (.slice B2 m2 d2)
            clear dF
            have dF := dF'
            clear dF'
            have dL' := dL.dP 7 (.slice B2 m2 d2)
            clear dL
            have dL := dL'
            clear dL'
            have tp8 := tp7.setP 8 (.slice B3 m3 d3)
            have dfs' := dfs.dP 8 (.slice B3 m3 d3)
            clear dfs
            have dfs := dfs'
            clear dfs'
            have bf' := bf.dP 8 (.slice B3 m3 d3)
            clear bf
            have bf := bf'
            clear bf'
            have bc' := bc.dP 8 (.slice B3 m3 d3)
            clear bc
            have bc := bc'
            clear bc'
            have f1' := f1.dP 8 (.slice B3 m3 d3)
            clear f1
            have f1 := f1'
            clear f1'
            have f2' := f2.dP 8 (.slice B3 m3 d3)
            clear f2
            have f2 := f2'
            clear f2'
            have f3' := f3.dP 8 (.slice B3 m3 d3)
            clear f3
            have f3 := f3'
            clear f3'
            have f4' := f4.dP 8 (.slice B3 m3 d3)
            clear f4
            have f4 := f4'
            clear f4'
            have dF' := dF.dP 8 (.slice B3 m3 d3)
            clear dF
            have dF := dF'
            clear dF'
            have dL' := dL.dP 8 (.slice B3 m3 d3)
            clear dL
            have dL := dL'
            clear dL'
            have tp9 := tp8.setP 9 (.slice B4 m4 d4)
            have dfs' := dfs.dP 9 (.slice B4 m4 d4)
            clear dfs
            have dfs := dfs'
            clear dfs'
            have bf' := bf.dP 9 (.slice B4 m4 d4)
            clear bf
            have bf := bf'
            clear bf'
            have bc' := bc.dP 9 (.slice B4 m4 d4)
            clear bc
            have bc := bc'
            clear bc'
            have f1' := f1.dP 9 (.slice B4 m4 d4)
            clear f1
            have f1 := f1'
            clear f1'
            have f2' := f2.dP 9 (.slice B4 m4 d4)
            clear f2
            have f2 := f2'
            clear f2'
            have f3' := f3.dP 9 (.slice B4 m4 d4)
            clear f3
            have f3 := f3'
            clear f3'
            have f4' := f4.dP 9 (.slice B4 m4 d4)
            clear f4
            have f4 := f4'
            clear f4'
            have dF' := dF.dP 9 (.slice B4 m4 d4)
            clear dF
            have dF := dF'
            clear dF'
            have dL' := dL.dP 9 (.slice B4 m4 d4)
            clear dL
            have dL := dL'
            clear dL'
            have hw : b0_4 = true ∨ (b0_4 = false ∧ is = true) ∨ (b0_4 = false ∧ is = false) := by cases b0_4 <;> cases is <;> simp
            rcases hw with rfl | ⟨rfl, rfl⟩ | ⟨rfl, rfl⟩
            ·
              have tse := tp9.or0 (!is) (b := true) (by rw [B0_4.out]; rfl)
              have HTE := Lib.hid tse
              have HF1 := Lib.hid (f1.dG hlt 0 (.bool true))
              have HF2 := Lib.hid (f2.dG hlt 0 (.bool true))
              have HF3 := Lib.hid (f3.dG hlt 0 (.bool true))
              have HF4 := Lib.hid (f4.dG hlt 0 (.bool true))
              clear tse dfs bf bc f1 f2 f3 f4 dF dL
              go_wp2
              refine bodyPost_ret (att_out _ _ w.heap.size _ _ _ _ _ _ _ _ _ _ _ _ rfl (TS.fin12 HTE.out).bq) rfl ?_
              refine ⟨⟨nm, 4, 0, 0, [], x.t, [], []⟩, _, _, _, _, _, _, _, _, _, _, _, _, _, _, _, _, _, _, ?_, rfl, (Held.fin12 HF1.out).done, (Held.fin12 HF2.out).done, (Held.fin12 HF3.out).done, (Held.fin12 HF4.out).done, Held.nil _ _ _ _ _ (by unfold maxLen; omega), Held.nil _ _ _ _ _ (by unfold maxLen; omega), ?_, (TS.fin12 HTE.out).gr⟩
              · intro h
                rw [HE.out] at h ⊢
                rw [HIMK.out (by rw [← Fl.or_assoc, ← Fl.or_assoc] at h; rw [← Fl.or_assoc]; exact bad_left h)]
              · rw [HE.out]; exact ((TS.fin12 HTE.out).k).to (by ac_rfl)
            ·
              have tse := tp9.or0 (!true) (b := false) (by rw [B0_4.out]; rfl)
              have HTE := Lib.hid tse
              have HF1 := Lib.hid (f1.dG hlt 0 (.bool false))
              have HF2 := Lib.hid (f2.dG hlt 0 (.bool false))
              have HF3 := Lib.hid (f3.dG hlt 0 (.bool false))
              have HF4 := Lib.hid (f4.dG hlt 0 (.bool false))
              clear tse dfs bf bc f1 f2 f3 f4 dF dL
              go_wp2
              refine bodyPost_ret (att_out _ _ w.heap.size _ _ _ _ _ _ _ _ _ _ _ _ rfl (TS.fin12 HTE.out).bq) rfl ?_
              refine ⟨⟨nm, 4, 0, 0, [], x.t, [], []⟩, _, _, _, _, _, _, _, _, _, _, _, _, _, _, _, _, _, _, ?_, rfl, (Held.fin12 HF1.out).done, (Held.fin12 HF2.out).done, (Held.fin12 HF3.out).done, (Held.fin12 HF4.out).done, Held.nil _ _ _ _ _ (by unfold maxLen; omega), Held.nil _ _ _ _ _ (by unfold maxLen; omega), ?_, (TS.fin12 HTE.out).gr⟩
              · intro h
                rw [HE.out] at h ⊢
                rw [HIMK.out (by rw [← Fl.or_assoc, ← Fl.or_assoc] at h; rw [← Fl.or_assoc]; exact bad_left h)]
              · rw [HE.out]; exact ((TS.fin12 HTE.out).k).to (by ac_rfl)
            ·
              have tse := tp9.or0 (!false) (b := true) (by rw [B0_4.out]; rfl)
              have HTE := Lib.hid tse
              have HF1 := Lib.hid (f1.dG hlt 0 (.bool true))
              have HF2 := Lib.hid (f2.dG hlt 0 (.bool true))
              have HF3 := Lib.hid (f3.dG hlt 0 (.bool true))
              have HF4 := Lib.hid (f4.dG hlt 0 (.bool true))
              clear tse dfs bf bc f1 f2 f3 f4 dF dL
              go_wp2
              refine bodyPost_ret (att_out _ _ w.heap.size _ _ _ _ _ _ _ _ _ _ _ _ rfl (TS.fin12 HTE.out).bq) rfl ?_
              refine ⟨⟨nm, 4, 0, 0, [], x.t, [], []⟩, _, _, _, _, _, _, _, _, _, _, _, _, _, _, _, _, _, _, ?_, rfl, (Held.fin12 HF1.out).done, (Held.fin12 HF2.out).done, (Held.fin12 HF3.out).done, (Held.fin12 HF4.out).done, Held.nil _ _ _ _ _ (by unfold maxLen; omega), Held.nil _ _ _ _ _ (by unfold maxLen; omega), ?_, (TS.fin12 HTE.out).gr⟩
              · intro h
                rw [HE.out] at h ⊢
                rw [HIMK.out (by rw [← Fl.or_assoc, ← Fl.or_assoc] at h; rw [← Fl.or_assoc]; exact bad_left h)]
              · rw [HE.out]; exact ((TS.fin12 HTE.out).k).to (by ac_rfl)
        ·
          focus
            obtain rfl : ki = 6 := HKI.out.symm
            obtain ⟨b0_4, b1_4, b2_4, B0_4, B1_4, B2_4, k0_4, k1_4, k2_4, z0_4, z1_4, z2_4, lg_4⟩ := tp3.fl
            obtain ⟨p0_4, p1_4, p2_4, p3_4, p4_4, p5_4, p6_4, p7_4, p8_4, p9_4, p10_4, p11_4, y0_4, y1_4, y2_4, y3_4, y4_4, y5_4, y6_4, y7_4, y8_4, y9_4, y10_4, y11_4, lp_4⟩ := blkc12 tp3.bp
            obtain ⟨q0_4, q1_4, q2_4, q3_4, q4_4, q5_4, q6_4, q7_4, q8_4, q9_4, q10_4, q11_4, x0_4, x1_4, x2_4, x3_4, x4_4, x5_4, x6_4, x7_4, x8_4, x9_4, x10_4, x11_4, lq_4⟩ := blkc12 tp3.bq
            have HE : Hid (dAttr b = (⟨nm, 6, 0, 0, [], tn0, lf, []⟩, fl1.or (attFl fs))) := Lib.hid (by
              rw [HAT.out, HKD.out]
              dsimp only
              rw [if_neg (by decide), if_neg (by decide), if_neg (by decide), if_neg (by decide), if_neg (by decide), if_pos rfl]
              simp only [HNM.out, HLF.out, HIV.out, HTX.out, HMS.out, HL7.out, HL8.out])
            clear HAT
            go_wp2
            have tp5 := tp3.setP 10 (.slice AF lf.length cF)
            have dfs' := dfs.dP 10 (.slice AF lf.length cF)
            clear dfs
            have dfs := dfs'
            clear dfs'
            have bf' := bf.dP 10 (.slice AF lf.length cF)
            clear bf
            have bf := bf'
            clear bf'
            have bc' := bc.dP 10 (.slice AF lf.length cF)
            clear bc
            have bc := bc'
            clear bc'
            have f1' := f1.dP 10 (.slice AF lf.length cF)
            clear f1
            have f1 := f1'
            clear f1'
            have f2' := f2.dP 10 (.slice AF lf.length cF)
            clear f2
            have f2 := f2'
            clear f2'
            have f3' := f3.dP 10 (.slice AF lf.length cF)
            clear f3
            have f3 := f3'
            clear f3'
            have f4' := f4.dP 10 (.slice AF lf.length cF)
            clear f4
            have f4 := f4'
            clear f4'
            have dF' := dF.dP 10 (.slice AF lf.length cF)
            clear dF
            have dF := dF'
            clear dF'
            have dL' := dL.dP 10 (.slice AF lf.length cF)
            clear dL
            have dL := dL'
            clear dL'
            refine bodyPost_ret (att_out _ _ w.heap.size _ _ _ _ _ _ _ _ _ _ _ _ rfl (TS.fin12 tp5).bq) rfl ?_
            refine ⟨⟨nm, 6, 0, 0, [], tn0, lf, []⟩, _, _, _, _, _, _, _, _, _, _, _, _, _, _, _, _, _, _, ?_, rfl, Held.nil _ _ _ _ _ (by unfold maxLen; omega), Held.nil _ _ _ _ _ (by unfold maxLen; omega), Held.nil _ _ _ _ _ (by unfold maxLen; omega), Held.nil _ _ _ _ _ (by unfold maxLen; omega), (Held.fin12 dF).done, Held.nil _ _ _ _ _ (by unfold maxLen; omega), ?_, (TS.fin12 tp5).gr⟩
            · intro _; rw [HE.out]
            · rw [HE.out]; exact ((TS.fin12 tp5).k).to (by ac_rfl)
        ·
          focus
            obtain rfl : ki = 7 := HKI.out.symm
            obtain ⟨b0_4, b1_4, b2_4, B0_4, B1_4, B2_4, k0_4, k1_4, k2_4, z0_4, z1_4, z2_4, lg_4⟩ := tp3.fl
            obtain ⟨p0_4, p1_4, p2_4, p3_4, p4_4, p5_4, p6_4, p7_4, p8_4, p9_4, p10_4, p11_4, y0_4, y1_4, y2_4, y3_4, y4_4, y5_4, y6_4, y7_4, y8_4, y9_4, y10_4, y11_4, lp_4⟩ := blkc12 tp3.bp
            obtain ⟨q0_4, q1_4, q2_4, q3_4, q4_4, q5_4, q6_4, q7_4, q8_4, q9_4, q10_4, q11_4, x0_4, x1_4, x2_4, x3_4, x4_4, x5_4, x6_4, x7_4, x8_4, x9_4, x10_4, x11_4, lq_4⟩ := blkc12 tp3.bq
            have HE : Hid (dAttr b = (⟨nm, 7, 0, 0, [], tn0, [], li⟩, fl1.or (attFl fs))) := Lib.hid (by
              rw [HAT.out, HKD.out]
              dsimp only
              rw [if_neg (by decide), if_neg (by decide), if_neg (by decide), if_neg (by decide), if_neg (by decide), if_neg (by decide), if_pos rfl]
              simp only [HNM.out, HLF.out, HIV.out, HTX.out, HMS.out, HL7.out, HL8.out])
            clear HAT
            go_wp2
            have tp5 := tp3.setP 11 (.slice AL li.length cL)
            have dfs' := dfs.dP 11 (.slice AL li.length cL)
            clear dfs
            have dfs := dfs'
            clear dfs'
            have bf' := bf.dP 11 (.slice AL li.length cL)
            clear bf
            have bf := bf'
            clear bf'
            have bc' := bc.dP 11 (.slice AL li.length cL)
            clear bc
            have bc := bc'
            clear bc'
            have f1' := f1.dP 11 (.slice AL li.length cL)
            clear f1
            have f1 := f1'
            clear f1'
            have f2' := f2.dP 11 (.slice AL li.length cL)
            clear f2
            have f2 := f2'
            clear f2'
            have f3' := f3.dP 11 (.slice AL li.length cL)
            clear f3
            have f3 := f3'
            clear f3'
            have f4' := f4.dP 11 (.slice AL li.length cL)
            clear f4
            have f4 := f4'
            clear f4'
            have dF' := dF.dP 11 (.slice AL li.length cL)
            clear dF
            have dF := dF'
            clear dF'
            have dL' := dL.dP 11 (.slice AL li.length cL)
            clear dL
            have dL := dL'
            clear dL'
            refine bodyPost_ret (att_out _ _ w.heap.size _ _ _ _ _ _ _ _ _ _ _ _ rfl (TS.fin12 tp5).bq) rfl ?_
            refine ⟨⟨nm, 7, 0, 0, [], tn0, [], li⟩, _, _, _, _, _, _, _, _, _, _, _, _, _, _, _, _, _, _, ?_, rfl, Held.nil _ _ _ _ _ (by unfold maxLen; omega), Held.nil _ _ _ _ _ (by unfold maxLen; omega), Held.nil _ _ _ _ _ (by unfold maxLen; omega), Held.nil _ _ _ _ _ (by unfold maxLen; omega), Held.nil _ _ _ _ _ (by unfold maxLen; omega), (Held.fin12 dL).done, ?_, (TS.fin12 tp5).gr⟩
            · intro _; rw [HE.out]
            · rw [HE.out]; exact ((TS.fin12 tp5).k).to (by ac_rfl)
        ·
          focus
            have q0 : (ki == 0) = false := beq_i64 HKI.out 0 rfl n0
            have q1 : (ki == 1) = false := beq_i64 HKI.out 1 rfl n1
            have q2 : (ki == 2) = false := beq_i64 HKI.out 2 rfl n2
            have q3 : (ki == 3) = false := beq_i64 HKI.out 3 rfl n3
            have q4 : (ki == 4) = false := beq_i64 HKI.out 4 rfl n4
            have q6 : (ki == 6) = false := beq_i64 HKI.out 6 rfl n6
            have q7 : (ki == 7) = false := beq_i64 HKI.out 7 rfl n7
            obtain ⟨b0_4, b1_4, b2_4, B0_4, B1_4, B2_4, k0_4, k1_4, k2_4, z0_4, z1_4, z2_4, lg_4⟩ := tp3.fl
            obtain ⟨p0_4, p1_4, p2_4, p3_4, p4_4, p5_4, p6_4, p7_4, p8_4, p9_4, p10_4, p11_4, y0_4, y1_4, y2_4, y3_4, y4_4, y5_4, y6_4, y7_4, y8_4, y9_4, y10_4, y11_4, lp_4⟩ := blkc12 tp3.bp
            obtain ⟨q0_4, q1_4, q2_4, q3_4, q4_4, q5_4, q6_4, q7_4, q8_4, q9_4, q10_4, q11_4, x0_4, x1_4, x2_4, x3_4, x4_4, x5_4, x6_4, x7_4, x8_4, x9_4, x10_4, x11_4, lq_4⟩ := blkc12 tp3.bq
            have HE : Hid (dAttr b = (⟨nm, kd, 0, 0, [], tn0, [], []⟩, fl1.or ((attFl fs).or ⟨false, true, false⟩))) := Lib.hid (by
              rw [HAT.out, HKD.out]
              dsimp only
              rw [if_neg n0, if_neg n1, if_neg n2, if_neg n3, if_neg n4, if_neg n6, if_neg n7]
              simp only [HNM.out, HLF.out, HIV.out, HTX.out, HMS.out, HL7.out, HL8.out])
            clear HAT
            have tse := tp3.or1 true (b := true) (by rw [Bool.or_true])
            go_wp2
            refine bodyPost_ret (att_out _ _ w.heap.size _ _ _ _ _ _ _ _ _ _ _ _ rfl (TS.fin12 tse).bq) rfl ?_
            refine ⟨⟨nm, kd, 0, 0, [], tn0, [], []⟩, _, _, _, _, _, _, _, _, _, _, _, _, _, _, _, _, _, _, ?_, (by rw [← HKI.out]; rfl), Held.nil _ _ _ _ _ (by unfold maxLen; omega), Held.nil _ _ _ _ _ (by unfold maxLen; omega), Held.nil _ _ _ _ _ (by unfold maxLen; omega), Held.nil _ _ _ _ _ (by unfold maxLen; omega), Held.nil _ _ _ _ _ (by unfold maxLen; omega), Held.nil _ _ _ _ _ (by unfold maxLen; omega), ?_, (TS.fin12 tse).gr⟩
            · intro _; rw [HE.out]
            · rw [HE.out]; exact ((TS.fin12 tse).k).to (by ac_rfl)
end
end Go.Proofs.YtlhpmlknmgocoaaGreat
