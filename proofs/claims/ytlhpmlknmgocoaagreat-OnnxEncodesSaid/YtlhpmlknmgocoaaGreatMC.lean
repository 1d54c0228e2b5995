import Derived.Test.YtlhpmlknmgocoaaGreatOnCe
/- The writer's node, values. -/
namespace Go.Proofs.YtlhpmlknmgocoaaGreat
set_option linter.unusedSimpArgs false
set_option linter.unusedVariables false
open Go.RowKit

theorem HL.nod {w : World} {S : Nat → Prop} {n : Nod} {us : List Value} (h : HL w S (datN n) us) :
    ∃ A1 c1 A2 c2 A3 c3, us = [.string ⟨n.op.toArray⟩, .string ⟨n.name.toArray⟩, .slice A1 n.ins.length c1, .slice A2 n.outs.length c2, .slice A3 n.attrs.length c3] ∧ Held w S (datS n.ins) (.slice A1 n.ins.length c1) ∧ Held w S (datS n.outs) (.slice A2 n.outs.length c2) ∧
      Held w S (.row 12 (n.attrs.flatMap datA)) (.slice A3 n.attrs.length c3) ∧ n.ins.length ≤ 140737488355328 ∧ n.outs.length ≤ 140737488355328 ∧ n.attrs.length ≤ 140737488355328 := by
  obtain ⟨u0, us0, rfl, h0, h⟩ := h.one
  obtain ⟨u1, us1, rfl, h1, h⟩ := h.one
  obtain ⟨u2, us2, rfl, h2, h⟩ := h.one
  obtain ⟨u3, us3, rfl, h3, h⟩ := h.one
  obtain ⟨u4, us4, rfl, h4, h⟩ := h.one
  obtain rfl := h.none
  obtain rfl := h0.leaf_eq
  obtain rfl := h1.leaf_eq
  obtain ⟨A1, c1, rfl, -, -, b1⟩ := Held.form1 h2
  obtain ⟨A2, c2, rfl, -, -, b2⟩ := Held.form1 h3
  obtain ⟨A3, c3, rfl, -, -, b3, -⟩ := Held.rows (f := datA) (n := 12) (fun _ => rfl) (by omega) h4
  exact ⟨A1, c1, A2, c2, A3, c3, rfl, h2, h3, h4, b1, b2, b3⟩
theorem Held.att_at {w : World} {S : Nat → Prop} {A : Option Addr} {m c : Nat} {xs : List Atr} (h : Held w S (.row 12 (xs.flatMap datA)) (.slice A m c)) {k : Nat} (hk : k < xs.length) :
    ∃ b off A1 c1 A2 c2 A3 c3 A4 c4 A5 c5 A6 c6, A = some ⟨b, off, none⟩ ∧ HL w S (datA xs[k]) [.string ⟨xs[k].name.toArray⟩, .int .i64 xs[k].kind.toInt, .int .u32 (xs[k].f.toNat : Int), .int .i64 xs[k].i.toInt, .string ⟨xs[k].s.toArray⟩, .int .i64 xs[k].t.ty.toInt, .slice A1 xs[k].t.dims.length c1, .slice A2 xs[k].t.f.length c2, .slice A3 xs[k].t.i.length c3, .slice A4 xs[k].t.b.length c4, .slice A5 xs[k].fl.length c5, .slice A6 xs[k].il.length c6] ∧ w.cell? ⟨b, off + k * 12, none⟩ = some (.string ⟨xs[k].name.toArray⟩) ∧ w.cell? ⟨b, off + k * 12 + 1, none⟩ = some (.int .i64 xs[k].kind.toInt) ∧ w.cell? ⟨b, off + k * 12 + 2, none⟩ = some (.int .u32 (xs[k].f.toNat : Int)) ∧ w.cell? ⟨b, off + k * 12 + 3, none⟩ = some (.int .i64 xs[k].i.toInt) ∧ w.cell? ⟨b, off + k * 12 + 4, none⟩ = some (.string ⟨xs[k].s.toArray⟩) ∧ w.cell? ⟨b, off + k * 12 + 5, none⟩ = some (.int .i64 xs[k].t.ty.toInt) ∧ w.cell? ⟨b, off + k * 12 + 6, none⟩ = some (.slice A1 xs[k].t.dims.length c1) ∧ w.cell? ⟨b, off + k * 12 + 7, none⟩ = some (.slice A2 xs[k].t.f.length c2) ∧ w.cell? ⟨b, off + k * 12 + 8, none⟩ = some (.slice A3 xs[k].t.i.length c3) ∧ w.cell? ⟨b, off + k * 12 + 9, none⟩ = some (.slice A4 xs[k].t.b.length c4) ∧ w.cell? ⟨b, off + k * 12 + 10, none⟩ = some (.slice A5 xs[k].fl.length c5) ∧ w.cell? ⟨b, off + k * 12 + 11, none⟩ = some (.slice A6 xs[k].il.length c6) := by
  obtain ⟨b, off, us, hA, -, hl, hc⟩ := Held.rowAt (f := datA) (n := 12) (fun _ => rfl) (by omega) h hk
  obtain ⟨A1, c1, A2, c2, A3, c3, A4, c4, A5, c5, A6, c6, rfl, -⟩ := hl.att
  exact ⟨b, off, A1, c1, A2, c2, A3, c3, A4, c4, A5, c5, A6, c6, hA, hl, hc 0 _ rfl, hc 1 _ rfl, hc 2 _ rfl, hc 3 _ rfl, hc 4 _ rfl, hc 5 _ rfl, hc 6 _ rfl, hc 7 _ rfl, hc 8 _ rfl, hc 9 _ rfl, hc 10 _ rfl, hc 11 _ rfl⟩
theorem any_take1 {α : Type} (p : α → Bool) {l : List α} {k : Nat} (h : k < l.length) : (l.take (k + 1)).any p = ((l.take k).any p || p l[k]) := by
  rw [List.take_succ_eq_append_getElem h, List.any_append]; simp
/-- behind k rounds of a loop that notes -/
def NLrel {α : Type} (pb pm : α → Bool) (l : List α) (w : World) (g : Nat) (b m : Bool) (i : Value) (wr : World) : Prop :=
  ∃ k : Nat, k ≤ l.length ∧ i = .int .i64 (k : Int) ∧ WrB wr g (b || (l.take k).any pb) (m || (l.take k).any pm) ∧ w.grownBy wr (some g)
theorem NLrel.start {α : Type} {pb pm : α → Bool} {l : List α} {w wr : World} {g : Nat} {b m : Bool} (h : WrB wr g b m) (hg : w.grownBy wr (some g)) : NLrel pb pm l w g b m (.int .i64 0) wr :=
  ⟨0, Nat.zero_le _, rfl, h.to (by simp) (by simp), hg⟩
section
variable {g : Nat} {b m : Bool} {S : Nat → Prop} {us : List Value} {w : World}
set_option maxRecDepth 100000 in
set_option maxHeartbeats 1600000 in
theorem wnode_any {n : Nod} (hk : WrB w g b m) (hl : HL w S (datN n) us) (hS : ¬ S g) :
    Calls Tryz.prog 20 #[.pointer (some ⟨g, 0, none⟩), .agg us.toArray] w (WN w g (b || badN n) (m || manyN false n)) := by
  obtain ⟨A1, c1, A2, c2, A3, c3, rfl, hi, ho, ha, b1, b2, b3⟩ := hl.nod
  have hlt := hk.lt
  obtain ⟨op, nm, ins, outs, attrs⟩ := n
  dsimp only at *
  clear hl
  obtain ⟨cs, hcs⟩ : ∃ cs : Array Value, #[.string ⟨op.toArray⟩, .string ⟨nm.toArray⟩, .slice A1 ins.length c1, .slice A2 outs.length c2, .slice A3 attrs.length c3] = cs := ⟨_, rfl⟩
  have HC := Lib.hid (wname_any ((hk.alloc (.cells cs 48)).alloc (.cells #[.string ⟨op.toArray⟩, .string ⟨nm.toArray⟩] 9)) (held_name2 _ op nm (q := w.heap.size + 1) (by simp)) (by omega))
  have HCS := Lib.hid hcs
  clear hcs
  go_enter Tryz.func20, Tryz.ntmps20
  go_wp2_with fail
  rw [HCS.out]
  refine Calls.mono HC.out ?_
  rintro e w2 ⟨rfl, hk2, hg2⟩
  have hb2 := ((Blk.new w 48 cs).alloc (.cells #[.string ⟨op.toArray⟩, .string ⟨nm.toArray⟩] 9)).grown hg2 (fun e => by injection e with e; omega)
  have hg20 : w.grownBy w2 (some g) := grown_trans (grown_trans (grown_alloc _ _) (grown_alloc _ _)) hg2
  rw [← HCS.out] at hb2
  clear HC HCS hg2 hk
  obtain ⟨p0, p1, p2, p3, p4, -, -, -, -, -, lp⟩ := blkc5 hb2
  have HB2 := Lib.hid hb2
  have HC2 := Lib.hid (wname_any hk2 (hi.rd hS hg20) hS)
  clear hb2 hk2
  go_wp2_with fail
  refine Calls.mono HC2.out ?_
  rintro e w3 ⟨rfl, hk3, hg3⟩
  have hb3 := HB2.out.grown hg3 (fun e => by injection e with e; omega)
  have hg30 : w.grownBy w3 (some g) := grown_trans hg20 hg3
  clear HC2 hg3 HB2 p0 p1 p2 p3 p4 lp hg20
  obtain ⟨p0, p1, p2, p3, p4, -, -, -, -, -, lp⟩ := blkc5 hb3
  have HB3 := Lib.hid hb3
  have HC3 := Lib.hid (wname_any hk3 (ho.rd hS hg30) hS)
  clear hb3 hk3
  go_wp2_with fail
  refine Calls.mono HC3.out ?_
  rintro e w4 ⟨rfl, hk4, hg4⟩
  have hb4 := HB3.out.grown hg4 (fun e => by injection e with e; omega)
  have hg40 : w.grownBy w4 (some g) := grown_trans hg30 hg4
  clear HC3 hg4 HB3 p0 p1 p2 p3 p4 lp hg30
  obtain ⟨p0, p1, p2, p3, p4, -, -, -, -, -, lp⟩ := blkc5 hb4
  obtain ⟨m4, hm4⟩ : ∃ q, (((m || [op, nm].any longP) || ins.any longP) || outs.any longP) = q := ⟨_, rfl⟩
  rw [hm4] at hk4
  obtain ⟨k0, k1, z0, z1, hgw⟩ := hk4.cells
  have HM4 := Lib.hid hm4
  have HB4 := Lib.hid hb4
  have HK4 := Lib.hid hk4
  have HG4 := Lib.hid hg40
  clear hb4 hk4 hm4 hg40 hi ho
  go_upto_region 4 with fail
  go_cut [] (fun wx => wx = w4.setCell ⟨g, 0, none⟩ (.bool (b || op.isEmpty)))
  case first =>
    as_aux_lemma =>
      have hw : b = true ∨ (b = false ∧ op = []) ∨ (b = false ∧ ¬ op = []) := by cases b <;> simp; exact Classical.em _
      rcases hw with rfl | ⟨rfl, h1⟩ | ⟨rfl, h1⟩
      · go_wp2
        go_meet
        case rel => simp
      · subst h1
        go_wp2
        go_meet
        case rel => simp
      · have e3 : op.isEmpty = false := by simpa using h1
        go_wp2
        go_meet
        case rel => simp [e3]
  case rest =>
    have hk5 : WrB wc g (b || op.isEmpty) m4 := by rw [hcut]; exact HK4.out.set0 _
    have hg5 : w.grownBy wc (some g) := by rw [hcut]; exact grown_trans HG4.out (grown_set _ _ _ _)
    have hb5 : Blk wc w.heap.size 48 #[.string ⟨op.toArray⟩, .string ⟨nm.toArray⟩, .slice A1 ins.length c1, .slice A2 outs.length c2, .slice A3 attrs.length c3] := by
      rw [hcut]; exact HB4.out.far (p := ⟨g, 0, none⟩) (by simp; omega) _
    clear hcut HK4 HG4 HB4 p0 p1 p2 p3 p4 lp k0 k1 z0 z1 hgw
    obtain ⟨W5, hW⟩ : ∃ W, W = wc := ⟨_, rfl⟩
    subst hW
    obtain ⟨p0, p1, p2, p3, p4, -, -, -, -, -, lp⟩ := blkc5 hb5
    obtain ⟨k0, k1, z0, z1, hgw⟩ := hk5.cells
    have HB5 := Lib.hid hb5
    have HK5 := Lib.hid hk5
    have HG5 := Lib.hid hg5
    clear hb5 hk5 hg5
    go_upto_region 5 with fail
    go_cut [] (fun wx => wx = W5.setCell ⟨g, 1, none⟩ (.bool (m4 || (decide (64 < ins.length) || decide (64 < outs.length) || decide (64 < attrs.length)))))
    case first =>
      as_aux_lemma =>
        have hw : m4 = true ∨ (m4 = false ∧ (outs.length : Int) > ins.length ∧ (attrs.length : Int) > outs.length) ∨ (m4 = false ∧ (outs.length : Int) > ins.length ∧ ¬ (attrs.length : Int) > outs.length) ∨ (m4 = false ∧ ¬ (outs.length : Int) > ins.length ∧ (attrs.length : Int) > ins.length) ∨ (m4 = false ∧ ¬ (outs.length : Int) > ins.length ∧ ¬ (attrs.length : Int) > ins.length) := by cases m4 <;> simp; omega
        rcases hw with rfl | ⟨rfl, h1, h2⟩ | ⟨rfl, h1, h2⟩ | ⟨rfl, h1, h2⟩ | ⟨rfl, h1, h2⟩
        all_goals
          go_wp2
          go_meet
          case rel => first | (simp; done) | (rw [Bool.false_or]; congr 2; rw [Bool.eq_iff_iff]; simp only [Bool.or_eq_true, decide_eq_true_eq]; omega)
    case rest =>
      have hk6 : WrB wc g (b || op.isEmpty) (m4 || (decide (64 < ins.length) || decide (64 < outs.length) || decide (64 < attrs.length))) := by rw [hcut]; exact HK5.out.set1 _
      have hg6 : w.grownBy wc (some g) := by rw [hcut]; exact grown_trans HG5.out (grown_set _ _ _ _)
      have hb6 : Blk wc w.heap.size 48 #[.string ⟨op.toArray⟩, .string ⟨nm.toArray⟩, .slice A1 ins.length c1, .slice A2 outs.length c2, .slice A3 attrs.length c3] := by
        rw [hcut]; exact HB5.out.far (p := ⟨g, 1, none⟩) (by simp; omega) _
      clear hcut HK5 HG5 HB5 p0 p1 p2 p3 p4 lp k0 k1 z0 z1 hgw
      obtain ⟨W6, hW⟩ : ∃ W, W = wc := ⟨_, rfl⟩
      subst hW
      have HBN : Hid (badN ⟨op, nm, ins, outs, attrs⟩ = (op.isEmpty || attrs.any badA)) := Lib.hid rfl
      have HMN : Hid ((m || manyN false ⟨op, nm, ins, outs, attrs⟩) = ((m4 || (decide (64 < ins.length) || decide (64 < outs.length) || decide (64 < attrs.length))) || attrs.any (manyA false))) := Lib.hid (by rw [← HM4.out]; simp [manyN, Bool.or_assoc])
      generalize (m4 || (decide (64 < ins.length) || decide (64 < outs.length) || decide (64 < attrs.length))) = m6 at *
      obtain ⟨p0, p1, p2, p3, p4, -, -, -, -, -, lp⟩ := blkc5 hb6
      have HK6 := Lib.hid hk6
      have HG6 := Lib.hid hg6
      clear hb6 hk6 hg6 HM4
      go_wp2
      go_loopw [56] (fun i wr => NLrel badA (manyA false) attrs w g (b || op.isEmpty) m6 i wr) (fun i _ => attrs.length - (intOf i).toNat)
      case atStart => exact NLrel.start HK6.out HG6.out
      case round =>
        obtain ⟨k, hk', rfl, hkr, hgr⟩ := hrel
        by_cases hlt' : k < attrs.length
        · obtain ⟨b1, off, D1, d1, D2, d2, D3, d3, D4, d4, D5, d5, D6, d6, rfl, hla, a0, a1, a2, a3, a4, a5, a6, a7, a8, a9, a10, a11⟩ := (ha.rd hS hgr).att_at hlt'
          have HT1 := Lib.hid (any_take1 badA hlt')
          have HT2 := Lib.hid (any_take1 (manyA false) hlt')
          generalize attrs[k] = a at *
          have HC := fun cs => Lib.hid (wattr_any (hkr.alloc (.cells cs 98)) (hla.keep (fun h => h.alloc _)) hS)
          have HGR := Lib.hid hgr
          clear hla hkr
          go_wp2_with fail
          refine Calls.mono (HC _).out ?_
          rintro e' w7 ⟨rfl, hk7, hg7⟩
          have HK7 := Lib.hid hk7
          clear hk7
          go_wp2
          go_roundw
          case rel => exact ⟨k + 1, hlt', by go_num, HK7.out.to (by rw [HT1.out, Bool.or_assoc]) (by rw [HT2.out, Bool.or_assoc]), grown_trans HGR.out (grown_trans (grown_alloc _ _) hg7)⟩
          case measure => simp [intOf]; omega
        · have hke : k = attrs.length := by omega
          have HKR := Lib.hid hkr
          clear hkr
          go_wp2
          go_end0
          rw [hke, List.take_length] at HKR
          exact ⟨rfl, HKR.out.to (by rw [HBN.out, Bool.or_assoc]) HMN.out.symm, hgr⟩
end
end Go.Proofs.YtlhpmlknmgocoaaGreat

/- The writer's values; what a model's rows are. -/
namespace Go.Proofs.YtlhpmlknmgocoaaGreat
set_option linter.unusedSimpArgs false
set_option linter.unusedVariables false
open Go.RowKit

theorem HL.val {w : World} {S : Nat → Prop} {v : Va} {us : List Value} (h : HL w S (datV v) us) :
    ∃ A1 c1, us = [.string ⟨v.name.toArray⟩, .int .i64 v.ty.toInt, .slice A1 v.dims.length c1] ∧ Held w S (datI v.dims) (.slice A1 v.dims.length c1) ∧ v.dims.length ≤ 140737488355328 := by
  obtain ⟨u0, us0, rfl, h0, h⟩ := h.one
  obtain ⟨u1, us1, rfl, h1, h⟩ := h.one
  obtain ⟨u2, us2, rfl, h2, h⟩ := h.one
  obtain rfl := h.none
  obtain rfl := h0.leaf_eq
  obtain rfl := h1.leaf_eq
  obtain ⟨A1, c1, rfl, -, -, b1⟩ := Held.form1 h2
  exact ⟨A1, c1, rfl, h2, b1⟩
theorem HL.ini {w : World} {S : Nat → Prop} {c : Ini} {us : List Value} (h : HL w S (datC c) us) :
    ∃ A1 c1 A2 c2 A3 c3 A4 c4, us = [.string ⟨c.name.toArray⟩, .int .i64 c.t.ty.toInt, .slice A1 c.t.dims.length c1, .slice A2 c.t.f.length c2, .slice A3 c.t.i.length c3, .slice A4 c.t.b.length c4] ∧
      HL w S (datT c.t) [.int .i64 c.t.ty.toInt, .slice A1 c.t.dims.length c1, .slice A2 c.t.f.length c2, .slice A3 c.t.i.length c3, .slice A4 c.t.b.length c4] := by
  obtain ⟨u0, us0, rfl, h0, h'⟩ := h.one
  obtain rfl := h0.leaf_eq
  obtain ⟨A1, c1, A2, c2, A3, c3, A4, c4, rfl, -⟩ := HL.ten (t := c.t) h'
  exact ⟨A1, c1, A2, c2, A3, c3, A4, c4, rfl, h'⟩
theorem Held.nod_at {w : World} {S : Nat → Prop} {A : Option Addr} {m c : Nat} {xs : List Nod} (h : Held w S (.row 5 (xs.flatMap datN)) (.slice A m c)) {k : Nat} (hk : k < xs.length) :
    ∃ b off A1 c1 A2 c2 A3 c3, A = some ⟨b, off, none⟩ ∧ HL w S (datN xs[k]) [.string ⟨xs[k].op.toArray⟩, .string ⟨xs[k].name.toArray⟩, .slice A1 xs[k].ins.length c1, .slice A2 xs[k].outs.length c2, .slice A3 xs[k].attrs.length c3] ∧ w.cell? ⟨b, off + k * 5, none⟩ = some (.string ⟨xs[k].op.toArray⟩) ∧ w.cell? ⟨b, off + k * 5 + 1, none⟩ = some (.string ⟨xs[k].name.toArray⟩) ∧ w.cell? ⟨b, off + k * 5 + 2, none⟩ = some (.slice A1 xs[k].ins.length c1) ∧ w.cell? ⟨b, off + k * 5 + 3, none⟩ = some (.slice A2 xs[k].outs.length c2) ∧ w.cell? ⟨b, off + k * 5 + 4, none⟩ = some (.slice A3 xs[k].attrs.length c3) := by
  obtain ⟨b, off, us, hA, -, hl, hc⟩ := Held.rowAt (f := datN) (n := 5) (fun _ => rfl) (by omega) h hk
  obtain ⟨A1, c1, A2, c2, A3, c3, rfl, -⟩ := hl.nod
  exact ⟨b, off, A1, c1, A2, c2, A3, c3, hA, hl, hc 0 _ rfl, hc 1 _ rfl, hc 2 _ rfl, hc 3 _ rfl, hc 4 _ rfl⟩
theorem Held.val_at {w : World} {S : Nat → Prop} {A : Option Addr} {m c : Nat} {xs : List Va} (h : Held w S (.row 3 (xs.flatMap datV)) (.slice A m c)) {k : Nat} (hk : k < xs.length) :
    ∃ b off A1 c1, A = some ⟨b, off, none⟩ ∧ HL w S (datV xs[k]) [.string ⟨xs[k].name.toArray⟩, .int .i64 xs[k].ty.toInt, .slice A1 xs[k].dims.length c1] ∧ w.cell? ⟨b, off + k * 3, none⟩ = some (.string ⟨xs[k].name.toArray⟩) ∧ w.cell? ⟨b, off + k * 3 + 1, none⟩ = some (.int .i64 xs[k].ty.toInt) ∧ w.cell? ⟨b, off + k * 3 + 2, none⟩ = some (.slice A1 xs[k].dims.length c1) := by
  obtain ⟨b, off, us, hA, -, hl, hc⟩ := Held.rowAt (f := datV) (n := 3) (fun _ => rfl) (by omega) h hk
  obtain ⟨A1, c1, rfl, -⟩ := hl.val
  exact ⟨b, off, A1, c1, hA, hl, hc 0 _ rfl, hc 1 _ rfl, hc 2 _ rfl⟩
theorem Held.ini_at {w : World} {S : Nat → Prop} {A : Option Addr} {m c : Nat} {xs : List Ini} (h : Held w S (.row 6 (xs.flatMap datC)) (.slice A m c)) {k : Nat} (hk : k < xs.length) :
    ∃ b off A1 c1 A2 c2 A3 c3 A4 c4, A = some ⟨b, off, none⟩ ∧ HL w S (datC xs[k]) [.string ⟨xs[k].name.toArray⟩, .int .i64 xs[k].t.ty.toInt, .slice A1 xs[k].t.dims.length c1, .slice A2 xs[k].t.f.length c2, .slice A3 xs[k].t.i.length c3, .slice A4 xs[k].t.b.length c4] ∧ w.cell? ⟨b, off + k * 6, none⟩ = some (.string ⟨xs[k].name.toArray⟩) ∧ w.cell? ⟨b, off + k * 6 + 1, none⟩ = some (.int .i64 xs[k].t.ty.toInt) ∧ w.cell? ⟨b, off + k * 6 + 2, none⟩ = some (.slice A1 xs[k].t.dims.length c1) ∧ w.cell? ⟨b, off + k * 6 + 3, none⟩ = some (.slice A2 xs[k].t.f.length c2) ∧ w.cell? ⟨b, off + k * 6 + 4, none⟩ = some (.slice A3 xs[k].t.i.length c3) ∧ w.cell? ⟨b, off + k * 6 + 5, none⟩ = some (.slice A4 xs[k].t.b.length c4) := by
  obtain ⟨b, off, us, hA, -, hl, hc⟩ := Held.rowAt (f := datC) (n := 6) (fun _ => rfl) (by omega) h hk
  obtain ⟨A1, c1, A2, c2, A3, c3, A4, c4, rfl, -⟩ := hl.ini
  exact ⟨b, off, A1, c1, A2, c2, A3, c3, A4, c4, hA, hl, hc 0 _ rfl, hc 1 _ rfl, hc 2 _ rfl, hc 3 _ rfl, hc 4 _ rfl, hc 5 _ rfl⟩
theorem HL.mod {w : World} {S : Nat → Prop} {m : Mo} {us : List Value} (h : HL w S (datM m) us) :
    ∃ A1 c1 A2 c2 A3 c3 A4 c4, us = [.int .i64 m.opset.toInt, .string ⟨m.name.toArray⟩, .slice A1 m.nodes.length c1, .slice A2 m.inits.length c2, .slice A3 m.inputs.length c3, .slice A4 m.outputs.length c4] ∧
      Held w S (.row 5 (m.nodes.flatMap datN)) (.slice A1 m.nodes.length c1) ∧ Held w S (.row 6 (m.inits.flatMap datC)) (.slice A2 m.inits.length c2) ∧ Held w S (.row 3 (m.inputs.flatMap datV)) (.slice A3 m.inputs.length c3) ∧ Held w S (.row 3 (m.outputs.flatMap datV)) (.slice A4 m.outputs.length c4) ∧
      m.nodes.length ≤ 140737488355328 ∧ m.inits.length ≤ 140737488355328 ∧ m.inputs.length ≤ 140737488355328 ∧ m.outputs.length ≤ 140737488355328 := by
  obtain ⟨u0, us0, rfl, h0, h⟩ := h.one
  obtain ⟨u1, us1, rfl, h1, h⟩ := h.one
  obtain ⟨u2, us2, rfl, h2, h⟩ := h.one
  obtain ⟨u3, us3, rfl, h3, h⟩ := h.one
  obtain ⟨u4, us4, rfl, h4, h⟩ := h.one
  obtain ⟨u5, us5, rfl, h5, h⟩ := h.one
  obtain rfl := h.none
  obtain rfl := h0.leaf_eq
  obtain rfl := h1.leaf_eq
  obtain ⟨A1, c1, rfl, -, -, b1, -⟩ := Held.rows (f := datN) (n := 5) (fun _ => rfl) (by omega) h2
  obtain ⟨A2, c2, rfl, -, -, b2, -⟩ := Held.rows (f := datC) (n := 6) (fun _ => rfl) (by omega) h3
  obtain ⟨A3, c3, rfl, -, -, b3, -⟩ := Held.rows (f := datV) (n := 3) (fun _ => rfl) (by omega) h4
  obtain ⟨A4, c4, rfl, -, -, b4, -⟩ := Held.rows (f := datV) (n := 3) (fun _ => rfl) (by omega) h5
  exact ⟨A1, c1, A2, c2, A3, c3, A4, c4, rfl, h2, h3, h4, h5, b1, b2, b3, b4⟩
section
variable {g : Nat} {b m : Bool} {S : Nat → Prop} {us : List Value} {v : Value} {w : World}
set_option maxRecDepth 100000 in
set_option maxHeartbeats 1600000 in
theorem wvalues_any {l : List Va} (hk : WrB w g b m) (hv : Held w S (.row 3 (l.flatMap datV)) v) (hS : ¬ S g) :
    Calls Tryz.prog 22 #[.pointer (some ⟨g, 0, none⟩), v] w (WN w g (b || l.any badV) ((m || decide (64 < l.length)) || l.any manyV)) := by
  obtain ⟨A, c, rfl, -, -, b1, -⟩ := Held.rows (f := datV) (n := 3) (fun _ => rfl) (by omega) hv
  have hlt := hk.lt
  obtain ⟨k0, k1, z0, z1, hgw⟩ := hk.cells
  have HK := Lib.hid hk
  clear hk
  go_enter Tryz.func22, Tryz.ntmps22
  go_upto_region 0 with fail
  go_cut [] (fun wx => wx = w.setCell ⟨g, 1, none⟩ (.bool (m || decide (64 < l.length))))
  case first =>
    as_aux_lemma =>
      have hw : m = true ∨ (m = false ∧ 64 < l.length) ∨ (m = false ∧ ¬ 64 < l.length) := by cases m <;> simp; omega
      rcases hw with rfl | ⟨rfl, h1⟩ | ⟨rfl, h1⟩
      all_goals
        go_wp2
        go_meet
        case rel => first | (simp; done) | (rw [Bool.false_or]; congr 2; rw [Bool.eq_iff_iff]; simp; omega)
  case rest =>
    have hk6 : WrB wc g b (m || decide (64 < l.length)) := by rw [hcut]; exact HK.out.set1 _
    have hg6 : w.grownBy wc (some g) := by rw [hcut]; exact grown_set _ _ _ _
    clear hcut HK k0 k1 z0 z1 hgw
    obtain ⟨W6, hW⟩ : ∃ W, W = wc := ⟨_, rfl⟩
    subst hW
    generalize (m || decide (64 < l.length)) = m6 at *
    have HK6 := Lib.hid hk6
    have HG6 := Lib.hid hg6
    clear hk6 hg6
    go_wp2
    go_loopw [20] (fun i wr => NLrel badV manyV l w g b m6 i wr) (fun i _ => l.length - (intOf i).toNat)
    case atStart => exact NLrel.start HK6.out HG6.out
    case round =>
      obtain ⟨k, hk', rfl, hkr, hgr⟩ := hrel
      by_cases hlt' : k < l.length
      · have hvk := hv.rd hS hgr
        obtain ⟨b1, off, D1, d1, rfl, hla, a0, a1, a2⟩ := hvk.val_at hlt'
        have HT1 := Lib.hid (any_take1 badV hlt')
        have HT2 := Lib.hid (any_take1 manyV hlt')
        obtain ⟨X1, x1, e, hdm, -⟩ := hla.val
        injection e with e1 e2
        injection e2 with e2 e3
        injection e3 with e3 e4
        rw [← e3] at hdm
        clear e1 e2 e3 e4
        generalize l[k] = x at *
        have HV1 : Hid (badV x = (decide ((cnt x.dims).2 = 1) || !knownP x.ty)) := Lib.hid rfl
        have HV2 : Hid (manyV x = (longP x.name || decide ((cnt x.dims).2 = 8))) := Lib.hid rfl
        obtain ⟨b7, hb7e⟩ : ∃ x, (b || (l.take k).any badV) = x := ⟨_, rfl⟩
        obtain ⟨m7, hm7e⟩ : ∃ x, (m6 || (l.take k).any manyV) = x := ⟨_, rfl⟩
        rw [hb7e, hm7e] at hkr
        have HB7E := Lib.hid hb7e
        have HM7E := Lib.hid hm7e
        clear hb7e hm7e
        have HC := fun cs => Lib.hid (wname_any ((hkr.alloc (.cells cs 37)).alloc (.cells #[.string ⟨x.name.toArray⟩] 9)) (held_name1 _ x.name (q := wr.heap.size + 1) (by simp)) (by have := hgr.size; omega))
        have HGR := Lib.hid hgr
        have HDM := Lib.hid hdm
        have hgw := hkr.lt
        clear hla hkr hvk hdm
        go_wp2_with fail
        refine Calls.mono (HC _).out ?_
        rintro e' w7 ⟨rfl, hk7, hg7⟩
        have hb7 := ((Blk.new wr 37 #[.string ⟨x.name.toArray⟩, .int .i64 x.ty.toInt, .slice D1 x.dims.length d1]).alloc (.cells #[.string ⟨x.name.toArray⟩] 9)).grown hg7 (fun e => by injection e with e; omega)
        have hg70 : wr.grownBy w7 (some g) := grown_trans (grown_trans (grown_alloc _ _) (grown_alloc _ _)) hg7
        obtain ⟨p0, p1, p2, -, -, -, lp⟩ := blkc3 hb7
        have HC2 := Lib.hid (wcount_any hk7 (HDM.out.rd hS hg70))
        have HB7 := Lib.hid hb7
        clear hb7 hk7 hg7 HC
        go_wp2_with fail
        refine Calls.mono HC2.out ?_
        rintro e' w8 ⟨rfl, hk8, hg8⟩
        have hb8 := HB7.out.grown hg8 (fun e => by injection e with e; omega)
        have hg80 : wr.grownBy w8 (some g) := grown_trans hg70 hg8
        clear p0 p1 p2 lp HB7 HC2 hg8
        obtain ⟨p0, p1, p2, -, -, -, lp⟩ := blkc3 hb8
        obtain ⟨q, hq⟩ : ∃ q, (b7 || decide ((cnt x.dims).2 = 1)) = q := ⟨_, rfl⟩
        rw [hq] at hk8
        have HQ := Lib.hid hq
        obtain ⟨k0, k1, z0, z1, hgw⟩ := hk8.cells
        have HK8 := Lib.hid hk8
        have HKN := Lib.hid (knownP_int x.ty)
        clear hb8 hk8 hq
        generalize x.ty.toInt = ti at *
        cases q
        · go_wp2_with fail
          refine Calls.mono (known_any _ _) ?_
          rintro e' w' ⟨rfl, hw'⟩
          subst w'
          go_wp2
          go_roundw
          case rel => exact ⟨k + 1, hlt', by go_num, (HK8.out.set0 _).to (by rw [HT1.out, HV1.out, HKN.out, ← Bool.or_assoc, ← Bool.or_assoc, HB7E.out, HQ.out]; simp) (by rw [HT2.out, HV2.out, ← Bool.or_assoc, HM7E.out]; simp [Bool.or_assoc]), grown_trans HGR.out (grown_trans hg80 (grown_set _ _ _ _))⟩
          case measure => simp [intOf]; omega
        · go_wp2
          go_roundw
          case rel => exact ⟨k + 1, hlt', by go_num, (HK8.out.set0 _).to (by rw [HT1.out, HV1.out, ← Bool.or_assoc, ← Bool.or_assoc, HB7E.out, HQ.out]; simp) (by rw [HT2.out, HV2.out, ← Bool.or_assoc, HM7E.out]; simp [Bool.or_assoc]), grown_trans HGR.out (grown_trans hg80 (grown_set _ _ _ _))⟩
          case measure => simp [intOf]; omega
      · have hke : k = l.length := by omega
        have HKR := Lib.hid hkr
        clear hkr
        go_wp2
        go_end0
        rw [hke, List.take_length] at HKR
        exact ⟨rfl, HKR.out, hgr⟩
end
end Go.Proofs.YtlhpmlknmgocoaaGreat
