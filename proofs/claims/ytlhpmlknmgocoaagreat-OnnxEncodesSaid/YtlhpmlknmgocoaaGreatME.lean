import Derived.Test.YtlhpmlknmgocoaaGreatOnDb
/- The document's Same.. of equal data: true. -/
namespace Go.Proofs.YtlhpmlknmgocoaaGreat
set_option linter.unusedSimpArgs false
set_option linter.unusedVariables false
open Go.RowKit

def QLrel (n : Nat) (w : World) (i : Value) (wr : World) : Prop := ∃ k j : Nat, k ≤ n ∧ i = .int .i64 (k : Int) ∧ wr = w.drewN j
/-- it says so, and turns nothing of what was there -/
def SaysB (w : World) (b : Bool) (e : Ending) (w' : World) : Prop := e = .returned (.bool b) ∧ Below w.heap.size w w'
theorem below_drewN' {B : Nat} {a w : World} (h : Below B a w) (n : Nat) : Below B a (w.drewN n) := ⟨h.os, h.tape, h.output, h.size, h.block⟩
section
variable {w : World} {S S' : Nat → Prop} {u v : Value} {us vs : List Value}
set_option maxRecDepth 100000 in
set_option maxHeartbeats 800000 in
theorem sameInts_eq {l : List Int64} (hu : Held w S (datI l) u) (hv : Held w S' (datI l) v) : Calls Tryz.prog 76 #[u, v] w (SaysQ w true) := by
  obtain ⟨A, c, rfl, h1, h2, h3⟩ := Held.form1 hu
  obtain ⟨A', c', rfl, h1', h2', -⟩ := Held.form1 hv
  go_enter Tryz.func76, Tryz.ntmps76
  go_wp2
  go_loopw [5] (fun i wr => QLrel l.length w i wr) (fun i _ => l.length - (intOf i).toNat)
  case atStart => exact ⟨0, 0, Nat.zero_le _, rfl, rfl⟩
  case round =>
    obtain ⟨k, n, hk, rfl, rfl⟩ := hrel
    by_cases hlt : k < l.length
    · obtain ⟨ba, oa, rfl, -, a0⟩ := hu.int_at hlt
      obtain ⟨bb, ob, rfl, -, b0⟩ := hv.int_at hlt
      have hly : (k : Int) < (l.length : Int) := by omega
      go_wp2
      go_quiet (fail)
      go_wp2
      go_roundw
      case rel => exact ⟨k + 1, _, by omega, by go_num, rfl⟩
      case measure => simp [intOf]; omega
    · go_wp2
      go_ret
      exact ⟨rfl, n, rfl⟩
set_option maxRecDepth 100000 in
set_option maxHeartbeats 800000 in
theorem sameNames_eq {l : List (List UInt8)} (hu : Held w S (datS l) u) (hv : Held w S' (datS l) v) : Calls Tryz.prog 77 #[u, v] w (SaysQ w true) := by
  obtain ⟨A, c, rfl, h1, h2, h3⟩ := Held.form1 hu
  obtain ⟨A', c', rfl, h1', h2', -⟩ := Held.form1 hv
  go_enter Tryz.func77, Tryz.ntmps77
  go_wp2
  go_loopw [5] (fun i wr => QLrel l.length w i wr) (fun i _ => l.length - (intOf i).toNat)
  case atStart => exact ⟨0, 0, Nat.zero_le _, rfl, rfl⟩
  case round =>
    obtain ⟨k, n, hk, rfl, rfl⟩ := hrel
    by_cases hlt : k < l.length
    · obtain ⟨ba, oa, rfl, -, a0⟩ := hu.str_at hlt
      obtain ⟨bb, ob, rfl, -, b0⟩ := hv.str_at hlt
      have hly : (k : Int) < (l.length : Int) := by omega
      go_wp2
      go_quiet (fail)
      go_wp2
      go_roundw
      case rel => exact ⟨k + 1, _, by omega, by go_num, rfl⟩
      case measure => simp [intOf]; omega
    · go_wp2
      go_ret
      exact ⟨rfl, n, rfl⟩
set_option maxRecDepth 100000 in
set_option maxHeartbeats 3200000 in
theorem sameTensor_eq {t : Tn} (hu : HL w S (datT t) us) (hv : HL w S' (datT t) vs) : Calls Tryz.prog 42 #[.agg us.toArray, .agg vs.toArray] w (SaysB w true) := by
  obtain ⟨A1, c1, A2, c2, A3, c3, A4, c4, rfl, ud, uf, ui, ub, b1, b2, b3, b4⟩ := hu.ten
  obtain ⟨B1, d1, B2, d2, B3, d3, B4, d4, rfl, vd, vf, vi, vb, -⟩ := hv.ten
  clear hu hv
  generalize t.ty.toInt = ti at *
  obtain ⟨ty, dims, f, il, bl⟩ := t
  dsimp only at *
  obtain ⟨W1, hW1⟩ : ∃ W1, (w.alloc (.cells #[.int .i64 ti, .slice A1 dims.length c1, .slice A2 f.length c2, .slice A3 il.length c3, .slice A4 bl.length c4] 55)).alloc (.cells #[.int .i64 ti, .slice B1 dims.length d1, .slice B2 f.length d2, .slice B3 il.length d3, .slice B4 bl.length d4] 55) = W1 := ⟨_, rfl⟩
  have hb1 : Blk W1 w.heap.size 55 #[.int .i64 ti, .slice A1 dims.length c1, .slice A2 f.length c2, .slice A3 il.length c3, .slice A4 bl.length c4] := by rw [← hW1]; exact (Blk.new _ _ _).alloc _
  have hb2 : Blk W1 (w.heap.size + 1) 55 #[.int .i64 ti, .slice B1 dims.length d1, .slice B2 f.length d2, .slice B3 il.length d3, .slice B4 bl.length d4] := by rw [← hW1]; exact Blk.new' _ _ _ (by simp)
  have hbel : Below w.heap.size w W1 := by rw [← hW1]; exact ((Below.refl _ _).alloc (Nat.le_refl _) _).alloc (by simp) _
  have HBL := Lib.hid hbel
  have ud := ud.past hbel
  have uf := uf.past hbel
  have ui := ui.past hbel
  have ub := ub.past hbel
  have vd := vd.past hbel
  have vf := vf.past hbel
  have vi := vi.past hbel
  have vb := vb.past hbel
  have HW := Lib.hid hW1
  have HC := Lib.hid (sameInts_eq ud vd)
  obtain ⟨p0, p1, p2, p3, p4, -, -, -, -, -, lp⟩ := blkc5 hb1
  obtain ⟨q0, q1, q2, q3, q4, -, -, -, -, -, lq⟩ := blkc5 hb2
  clear hW1 hbel hb1 hb2
  go_enter Tryz.func42, Tryz.ntmps42
  go_wp2_with fail
  rw [HW.out]
  refine HC.out.mono ?_
  rintro e w' ⟨rfl, n0, rfl⟩
  go_wp2
  go_loopw [5] (fun i wr => QLrel f.length W1 i wr) (fun i _ => f.length - (intOf i).toNat)
  case atStart => exact ⟨0, _, Nat.zero_le _, rfl, rfl⟩
  case round =>
    obtain ⟨k, n, hk, rfl, rfl⟩ := hrel
    by_cases hlt : k < f.length
    · obtain ⟨ba, oa, rfl, -, a0⟩ := (uf).u32_at hlt
      obtain ⟨bb, ob, rfl, -, b0⟩ := (vf).u32_at hlt
      have hly : (k : Int) < (f.length : Int) := by omega
      go_wp2
      go_quiet (fail)
      go_wp2
      go_roundw
      case rel => exact ⟨k + 1, _, by omega, by go_num, rfl⟩
      case measure => simp [intOf]; omega
    · have hke : k = f.length := by omega
      clear hke
      go_wp2
      go_loopw [6] (fun i wr => QLrel il.length W1 i wr) (fun i _ => il.length - (intOf i).toNat)
      case atStart => exact ⟨0, _, Nat.zero_le _, rfl, rfl⟩
      case round =>
        obtain ⟨k, n, hk, rfl, rfl⟩ := hrel
        by_cases hlt : k < il.length
        · obtain ⟨ba, oa, rfl, -, a0⟩ := (ui).int_at hlt
          obtain ⟨bb, ob, rfl, -, b0⟩ := (vi).int_at hlt
          have hly : (k : Int) < (il.length : Int) := by omega
          go_wp2
          go_quiet (fail)
          go_wp2
          go_roundw
          case rel => exact ⟨k + 1, _, by omega, by go_num, rfl⟩
          case measure => simp [intOf]; omega
        · have hke : k = il.length := by omega
          clear hke
          go_wp2
          go_loopw [7] (fun i wr => QLrel bl.length W1 i wr) (fun i _ => bl.length - (intOf i).toNat)
          case atStart => exact ⟨0, _, Nat.zero_le _, rfl, rfl⟩
          case round =>
            obtain ⟨k, n, hk, rfl, rfl⟩ := hrel
            by_cases hlt : k < bl.length
            · obtain ⟨ba, oa, rfl, -, a0⟩ := (ub).bool_at hlt
              obtain ⟨bb, ob, rfl, -, b0⟩ := (vb).bool_at hlt
              have hly : (k : Int) < (bl.length : Int) := by omega
              go_wp2
              go_quiet (fail)
              go_wp2
              go_roundw
              case rel => exact ⟨k + 1, _, by omega, by go_num, rfl⟩
              case measure => simp [intOf]; omega
            · have hke : k = bl.length := by omega
              clear hke
              go_wp2
              go_ret
              exact ⟨rfl, below_drewN' HBL.out _⟩
end
end Go.Proofs.YtlhpmlknmgocoaaGreat

/- The document's Same.. of equal data: values, attributes, nodes, models. -/
namespace Go.Proofs.YtlhpmlknmgocoaaGreat
set_option linter.unusedSimpArgs false
set_option linter.unusedVariables false
open Go.RowKit

theorem SaysB.after {w w1 : World} {b : Bool} {e : Ending} {w' : World} (hb : Below w.heap.size w w1) (h : SaysB w1 b e w') : SaysB w b e w' := ⟨h.1, hb.trans (h.2.mono hb.size)⟩
def SNrel (n : Nat) (w : World) (i : Value) (wr : World) : Prop := ∃ k : Nat, k ≤ n ∧ i = .int .i64 (k : Int) ∧ Below w.heap.size w wr
section
variable {w : World} {S S' : Nat → Prop} {u v : Value} {us vs : List Value}
set_option maxRecDepth 100000 in
set_option maxHeartbeats 3200000 in
theorem sameValues_eq {l : List Va} (hu : Held w S (.row 3 (l.flatMap datV)) u) (hv : Held w S' (.row 3 (l.flatMap datV)) v) : Calls Tryz.prog 40 #[u, v] w (SaysQ w true) := by
  obtain ⟨A, c, rfl, h1, h2, h3, -⟩ := Held.rows (f := datV) (n := 3) (fun _ => rfl) (by omega) hu
  obtain ⟨A', c', rfl, h1', h2', -⟩ := Held.rows (f := datV) (n := 3) (fun _ => rfl) (by omega) hv
  go_enter Tryz.func40, Tryz.ntmps40
  go_wp2
  go_loopw [5] (fun i wr => QLrel l.length w i wr) (fun i _ => l.length - (intOf i).toNat)
  case atStart => exact ⟨0, 0, Nat.zero_le _, rfl, rfl⟩
  case round =>
    obtain ⟨k, n, hk, rfl, rfl⟩ := hrel
    by_cases hlt : k < l.length
    · obtain ⟨ba, oa, D1, d1, rfl, hla, a0, a1, a2⟩ := hu.val_at hlt
      obtain ⟨bb, ob, E1, e1, rfl, hlb, b0, b1, b2⟩ := hv.val_at hlt
      obtain ⟨X1, x1, e, hda, -⟩ := hla.val
      injection e with e0 e
      injection e with e0 e
      injection e with e0 e
      rw [← e0] at hda
      clear e e0
      obtain ⟨X2, x2, e, hdb, -⟩ := hlb.val
      injection e with e0 e
      injection e with e0 e
      injection e with e0 e
      rw [← e0] at hdb
      clear e e0 hla hlb
      have hly : (k : Int) < (l.length : Int) := by omega
      generalize l[k] = x at *
      have HQ := fun n => Lib.hid (sameInts_eq (hda.drewN n) (hdb.drewN n))
      clear hda hdb
      go_wp2
      go_quiet ((go_at_call 76; exact quiet_says (HQ _).out))
      go_wp2
      go_roundw
      case rel => exact ⟨k + 1, _, by omega, by go_num, rfl⟩
      case measure => simp [intOf]; omega
    · go_wp2
      go_ret
      exact ⟨rfl, n, rfl⟩
set_option maxRecDepth 100000 in
set_option maxHeartbeats 3200000 in
theorem sameAttr_eq {a : Atr} (hu : HL w S (datA a) us) (hv : HL w S' (datA a) vs) : Calls Tryz.prog 78 #[.agg us.toArray, .agg vs.toArray] w (SaysB w true) := by
  obtain ⟨A1, c1, A2, c2, A3, c3, A4, c4, A5, c5, A6, c6, rfl, ut, uf, ui, b1, b2, b3, b4, b5, b6⟩ := hu.att
  obtain ⟨B1, d1, B2, d2, B3, d3, B4, d4, B5, d5, B6, d6, rfl, vt, vf, vi, -⟩ := hv.att
  obtain ⟨an, ak, af, ai, as', at', afl, ail⟩ := a
  dsimp only at *
  clear hu hv
  obtain ⟨cs, hcs⟩ : ∃ cs : Array Value, #[.string ⟨an.toArray⟩, .int .i64 ak.toInt, .int .u32 (af.toNat : Int), .int .i64 ai.toInt, .string ⟨as'.toArray⟩, .int .i64 at'.ty.toInt, .slice A1 at'.dims.length c1, .slice A2 at'.f.length c2, .slice A3 at'.i.length c3, .slice A4 at'.b.length c4, .slice A5 afl.length c5, .slice A6 ail.length c6] = cs := ⟨_, rfl⟩
  obtain ⟨ds, hds⟩ : ∃ cs : Array Value, #[.string ⟨an.toArray⟩, .int .i64 ak.toInt, .int .u32 (af.toNat : Int), .int .i64 ai.toInt, .string ⟨as'.toArray⟩, .int .i64 at'.ty.toInt, .slice B1 at'.dims.length d1, .slice B2 at'.f.length d2, .slice B3 at'.i.length d3, .slice B4 at'.b.length d4, .slice B5 afl.length d5, .slice B6 ail.length d6] = cs := ⟨_, rfl⟩
  obtain ⟨W1, hW1⟩ : ∃ W1, (w.alloc (.cells cs 98)).alloc (.cells ds 98) = W1 := ⟨_, rfl⟩
  have hb1 : Blk W1 w.heap.size 98 cs := by rw [← hW1]; exact (Blk.new _ _ _).alloc _
  have hb2 : Blk W1 (w.heap.size + 1) 98 ds := by rw [← hW1]; exact Blk.new' _ _ _ (by simp)
  have hbel : Below w.heap.size w W1 := by rw [← hW1]; exact ((Below.refl _ _).alloc (Nat.le_refl _) _).alloc (by simp) _
  have HC := Lib.hid (sameTensor_eq (ut.keep (fun h => h.past hbel)) (vt.keep (fun h => h.past hbel)))
  rw [← hcs] at hb1
  rw [← hds] at hb2
  have HW : Hid ((w.alloc (.cells _ 98)).alloc (.cells _ 98) = W1) := Lib.hid (by rw [← hW1, ← hcs, ← hds])
  have HBL := Lib.hid hbel
  have HB1 := Lib.hid hb1
  have HB2 := Lib.hid hb2
  have HL1 := Lib.hid hb2.lt
  obtain ⟨p0, p1, p2, p3, p4, p5, p6, p7, p8, p9, p10, p11, -, -, -, -, -, -, -, -, -, -, -, -, lp⟩ := blkc12 hb1
  obtain ⟨q0, q1, q2, q3, q4, q5, q6, q7, q8, q9, q10, q11, -, -, -, -, -, -, -, -, -, -, -, -, lq⟩ := blkc12 hb2
  have HUF := Lib.hid (uf.past hbel)
  have HUI := Lib.hid (ui.past hbel)
  have HVF := Lib.hid (vf.past hbel)
  have HVI := Lib.hid (vi.past hbel)
  clear hcs hds hW1 hbel hb1 hb2 ut vt uf ui vf vi
  generalize ak.toInt = kd at *
  generalize (af.toNat : Int) = fv at *
  generalize ai.toInt = iv at *
  generalize at'.ty.toInt = tv at *
  generalize at'.dims.length = m1 at *
  generalize at'.f.length = m2 at *
  generalize at'.i.length = m3 at *
  generalize at'.b.length = m4 at *
  go_enter Tryz.func78, Tryz.ntmps78
  go_wp2_with fail
  rw [HW.out]
  refine HC.out.mono ?_
  rintro e W2 ⟨rfl, hb⟩
  clear p0 p1 p2 p3 p4 p5 p6 p7 p8 p9 p10 p11 lp q0 q1 q2 q3 q4 q5 q6 q7 q8 q9 q10 q11 lq HC HW
  obtain ⟨p0, p1, p2, p3, p4, p5, p6, p7, p8, p9, p10, p11, -, -, -, -, -, -, -, -, -, -, -, -, lp⟩ := blkc12 (HB1.out.below hb HB1.out.lt)
  obtain ⟨q0, q1, q2, q3, q4, q5, q6, q7, q8, q9, q10, q11, -, -, -, -, -, -, -, -, -, -, -, -, lq⟩ := blkc12 (HB2.out.below hb HL1.out)
  have uf := HUF.out.past hb
  have ui := HUI.out.past hb
  have vf := HVF.out.past hb
  have vi := HVI.out.past hb
  have HB := Lib.hid hb
  clear hb
  go_wp2
  go_loopw [5] (fun i wr => QLrel afl.length W2 i wr) (fun i _ => afl.length - (intOf i).toNat)
  case atStart => exact ⟨0, 0, Nat.zero_le _, rfl, rfl⟩
  case round =>
    obtain ⟨k, n, hk, rfl, rfl⟩ := hrel
    by_cases hlt : k < afl.length
    · obtain ⟨ba, oa, rfl, -, a0⟩ := (uf).u32_at hlt
      obtain ⟨bb, ob, rfl, -, b0⟩ := (vf).u32_at hlt
      have hly : (k : Int) < (afl.length : Int) := by omega
      go_wp2
      go_quiet (fail)
      go_wp2
      go_roundw
      case rel => exact ⟨k + 1, _, by omega, by go_num, rfl⟩
      case measure => simp [intOf]; omega
    · have hke : k = afl.length := by omega
      clear hke
      go_wp2
      go_loopw [6] (fun i wr => QLrel ail.length W2 i wr) (fun i _ => ail.length - (intOf i).toNat)
      case atStart => exact ⟨0, _, Nat.zero_le _, rfl, rfl⟩
      case round =>
        obtain ⟨k, n, hk, rfl, rfl⟩ := hrel
        by_cases hlt : k < ail.length
        · obtain ⟨ba, oa, rfl, -, a0⟩ := (ui).int_at hlt
          obtain ⟨bb, ob, rfl, -, b0⟩ := (vi).int_at hlt
          have hly : (k : Int) < (ail.length : Int) := by omega
          go_wp2
          go_quiet (fail)
          go_wp2
          go_roundw
          case rel => exact ⟨k + 1, _, by omega, by go_num, rfl⟩
          case measure => simp [intOf]; omega
        · have hke : k = ail.length := by omega
          clear hke
          go_wp2
          go_ret
          exact ⟨rfl, HBL.out.trans ((below_drewN' HB.out _).mono HBL.out.size)⟩
end
end Go.Proofs.YtlhpmlknmgocoaaGreat
