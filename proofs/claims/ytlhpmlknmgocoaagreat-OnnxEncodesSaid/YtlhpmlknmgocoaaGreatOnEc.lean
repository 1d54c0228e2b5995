/- The document's SameNode, Same of equal data: true. -/
import Derived.Test.YtlhpmlknmgocoaaGreatME
import Derived.Deep.RegionHeld3
namespace Go.Proofs.YtlhpmlknmgocoaaGreat
set_option linter.unusedSimpArgs false
set_option linter.unusedVariables false
open Go.RowKit
section
variable {w : World} {S S' : Nat → Prop} {u v : Value} {us vs : List Value}
set_option maxRecDepth 100000 in
set_option maxHeartbeats 3200000 in
theorem sameNode_eq {n : Nod} (hu : HL w S (datN n) us) (hv : HL w S' (datN n) vs) : Calls Tryz.prog 41 #[.agg us.toArray, .agg vs.toArray] w (SaysB w true) := by
  obtain ⟨A1, c1, A2, c2, A3, c3, rfl, ui, uo, ua, b1, b2, b3⟩ := hu.nod
  obtain ⟨B1, d1, B2, d2, B3, d3, rfl, vi, vo, va, -⟩ := hv.nod
  obtain ⟨op, nm, ins, outs, attrs⟩ := n
  dsimp only at *
  clear hu hv
  obtain ⟨W1, hW1⟩ : ∃ W1, (w.alloc (.cells #[.string ⟨op.toArray⟩, .string ⟨nm.toArray⟩, .slice A1 ins.length c1, .slice A2 outs.length c2, .slice A3 attrs.length c3] 48)).alloc (.cells #[.string ⟨op.toArray⟩, .string ⟨nm.toArray⟩, .slice B1 ins.length d1, .slice B2 outs.length d2, .slice B3 attrs.length d3] 48) = W1 := ⟨_, rfl⟩
  have hb1 : Blk W1 w.heap.size 48 #[.string ⟨op.toArray⟩, .string ⟨nm.toArray⟩, .slice A1 ins.length c1, .slice A2 outs.length c2, .slice A3 attrs.length c3] := by rw [← hW1]; exact (Blk.new _ _ _).alloc _
  have hb2 : Blk W1 (w.heap.size + 1) 48 #[.string ⟨op.toArray⟩, .string ⟨nm.toArray⟩, .slice B1 ins.length d1, .slice B2 outs.length d2, .slice B3 attrs.length d3] := by rw [← hW1]; exact Blk.new' _ _ _ (by simp)
  have hbel : Below w.heap.size w W1 := by rw [← hW1]; exact ((Below.refl _ _).alloc (Nat.le_refl _) _).alloc (by simp) _
  have HBL := Lib.hid hbel
  have HB1 := Lib.hid hb1
  have HB2 := Lib.hid hb2
  have HLT := Lib.hid hb2.lt
  have HC1 := Lib.hid (sameNames_eq (ui.past hbel) (vi.past hbel))
  have HC2 := fun n => Lib.hid (sameNames_eq ((uo.past hbel).drewN n) ((vo.past hbel).drewN n))
  have ua := ua.past hbel
  have va := va.past hbel
  have HW := Lib.hid hW1
  obtain ⟨p0, p1, p2, p3, p4, -, -, -, -, -, lp⟩ := blkc5 hb1
  obtain ⟨q0, q1, q2, q3, q4, -, -, -, -, -, lq⟩ := blkc5 hb2
  clear hW1 hbel hb1 hb2 ui vi uo vo
  go_enter Tryz.func41, Tryz.ntmps41
  go_wp2_with fail
  rw [HW.out]
  refine HC1.out.mono ?_
  rintro e w' ⟨rfl, n0, rfl⟩
  go_wp2_with fail
  refine (HC2 n0).out.mono ?_
  rintro e w' ⟨rfl, n1, rfl⟩
  have hbq : Below W1.heap.size W1 ((W1.drewN n0).drewN n1) := below_drewN' (below_drewN' (Below.refl _ _) _) _
  obtain ⟨W2, hW2⟩ : ∃ W2, (W1.drewN n0).drewN n1 = W2 := ⟨_, rfl⟩
  rw [hW2] at hbq ⊢
  clear hW2 p0 p1 p2 p3 p4 lp q0 q1 q2 q3 q4 lq
  have ua := ua.past hbq
  have va := va.past hbq
  have HB1 := Lib.hid (HB1.out.below hbq HB1.out.lt)
  have HB2 := Lib.hid (HB2.out.below hbq HLT.out)
  have HLT := Lib.hid (HB2.out.lt)
  have HBL := Lib.hid (HBL.out.trans (hbq.mono HBL.out.size))
  obtain ⟨p0, p1, p2, p3, p4, -, -, -, -, -, lp⟩ := blkc5 HB1.out
  obtain ⟨q0, q1, q2, q3, q4, -, -, -, -, -, lq⟩ := blkc5 HB2.out
  clear hbq
  go_wp2
  go_loopw [5] (fun i wr => SNrel attrs.length W2 i wr) (fun i _ => attrs.length - (intOf i).toNat)
  case atStart => exact ⟨0, Nat.zero_le _, rfl, Below.refl _ _⟩
  case round =>
    obtain ⟨k, hk, rfl, hbl⟩ := hrel
    clear p0 p1 p2 p3 p4 lp q0 q1 q2 q3 q4 lq
    obtain ⟨p0, p1, p2, p3, p4, -, -, -, -, -, lp⟩ := blkc5 (HB1.out.below hbl HB1.out.lt)
    obtain ⟨q0, q1, q2, q3, q4, -, -, -, -, -, lq⟩ := blkc5 (HB2.out.below hbl HLT.out)
    by_cases hlt : k < attrs.length
    · obtain ⟨ba, oa, D1, d1, D2, d2, D3, d3, D4, d4, D5, d5, D6, d6, rfl, hla, a0, a1, a2, a3, a4, a5, a6, a7, a8, a9, a10, a11⟩ := (ua.past hbl).att_at hlt
      obtain ⟨bb, ob, E1, e1, E2, e2, E3, e3, E4, e4, E5, e5, E6, e6, rfl, hlb, r0, r1, r2, r3, r4, r5, r6, r7, r8, r9, r10, r11⟩ := (va.past hbl).att_at hlt
      have hly : (k : Int) < (attrs.length : Int) := by omega
      generalize attrs[k] = x at *
      have HC := Lib.hid (sameAttr_eq (hla.keep (fun h => h.drew)) (hlb.keep (fun h => h.drew)))
      have HBK := Lib.hid hbl
      clear hla hlb hbl
      go_upto_region 6 with fail
      go_cut [61] (fun s wx => s = .bool false ∧ Below wr.heap.size wr wx)
      case first =>
        go_region_with (
          go_at_call 78
          refine HC.out.mono ?_
          rintro e w4 ⟨rfl, hB4⟩)
        all_goals
          go_wp2_with fail
          go_meet
          case rel => exact ⟨rfl, (Below.refl wr.heap.size wr).drew.trans hB4⟩
      case rest =>
        obtain ⟨rfl, hbc⟩ := hcut
        have hbn : Hid (Below W2.heap.size W2 wc) := Lib.hid (HBK.out.trans (hbc.mono HBK.out.size))
        clear hbc
        go_wp2
        go_roundw
        case rel => exact ⟨k + 1, hlt, by go_num, hbn.out⟩
        case measure => simp [intOf]; omega
    · go_wp2
      go_ret
      exact ⟨rfl, HBL.out.trans (hbl.mono HBL.out.size)⟩

set_option maxRecDepth 100000 in
set_option maxHeartbeats 3200000 in
theorem same_model {m : Mo} (hu : HL w S (datM m) us) (hv : HL w S' (datM m) vs) : Calls Tryz.prog 12 #[.agg us.toArray, .agg vs.toArray] w (SaysB w true) := by
  obtain ⟨A1, c1, A2, c2, A3, c3, A4, c4, rfl, un, uc, ui, uo, b1, b2, b3, b4⟩ := hu.mod
  obtain ⟨B1, d1x, B2, d2x, B3, d3x, B4, d4x, rfl, vn, vc, vi, vo, -⟩ := hv.mod
  obtain ⟨ops, nm, nodes, inits, inputs, outputs⟩ := m
  dsimp only at *
  clear hu hv
  generalize ops.toInt = od at *
  obtain ⟨W1, hW1⟩ : ∃ W1, (w.alloc (.cells #[.int .i64 od, .string ⟨nm.toArray⟩, .slice A1 nodes.length c1, .slice A2 inits.length c2, .slice A3 inputs.length c3, .slice A4 outputs.length c4] 26)).alloc (.cells #[.int .i64 od, .string ⟨nm.toArray⟩, .slice B1 nodes.length d1x, .slice B2 inits.length d2x, .slice B3 inputs.length d3x, .slice B4 outputs.length d4x] 26) = W1 := ⟨_, rfl⟩
  have hb1 : Blk W1 w.heap.size 26 #[.int .i64 od, .string ⟨nm.toArray⟩, .slice A1 nodes.length c1, .slice A2 inits.length c2, .slice A3 inputs.length c3, .slice A4 outputs.length c4] := by rw [← hW1]; exact (Blk.new _ _ _).alloc _
  have hb2 : Blk W1 (w.heap.size + 1) 26 #[.int .i64 od, .string ⟨nm.toArray⟩, .slice B1 nodes.length d1x, .slice B2 inits.length d2x, .slice B3 inputs.length d3x, .slice B4 outputs.length d4x] := by rw [← hW1]; exact Blk.new' _ _ _ (by simp)
  have hbel : Below w.heap.size w W1 := by rw [← hW1]; exact ((Below.refl _ _).alloc (Nat.le_refl _) _).alloc (by simp) _
  have HBL := Lib.hid hbel
  have HB1 := Lib.hid hb1
  have HB2 := Lib.hid hb2
  have HLT := Lib.hid hb2.lt
  have HC1 := Lib.hid (sameValues_eq (ui.past hbel) (vi.past hbel))
  have HC2 := fun n => Lib.hid (sameValues_eq ((uo.past hbel).drewN n) ((vo.past hbel).drewN n))
  have un := un.past hbel
  have vn := vn.past hbel
  have uc := uc.past hbel
  have vc := vc.past hbel
  have HW := Lib.hid hW1
  obtain ⟨p0, p1, p2, p3, p4, p5, -, -, -, -, -, -, lp⟩ := blkc6 hb1
  obtain ⟨q0, q1, q2, q3, q4, q5, -, -, -, -, -, -, lq⟩ := blkc6 hb2
  clear hW1 hbel hb1 hb2 ui vi uo vo
  go_enter Tryz.func12, Tryz.ntmps12
  go_wp2_with fail
  rw [HW.out]
  refine HC1.out.mono ?_
  rintro e w' ⟨rfl, n0, rfl⟩
  go_wp2_with fail
  refine (HC2 n0).out.mono ?_
  rintro e w' ⟨rfl, n1, rfl⟩
  have hbq : Below W1.heap.size W1 ((W1.drewN n0).drewN n1) := below_drewN' (below_drewN' (Below.refl _ _) _) _
  obtain ⟨W2, hW2⟩ : ∃ W2, (W1.drewN n0).drewN n1 = W2 := ⟨_, rfl⟩
  rw [hW2] at hbq ⊢
  clear hW2 p0 p1 p2 p3 p4 p5 lp q0 q1 q2 q3 q4 q5 lq
  have un := un.past hbq
  have vn := vn.past hbq
  have uc := uc.past hbq
  have vc := vc.past hbq
  have HB1 := Lib.hid (HB1.out.below hbq HB1.out.lt)
  have HB2 := Lib.hid (HB2.out.below hbq HLT.out)
  have HLT := Lib.hid (HB2.out.lt)
  have HBL := Lib.hid (HBL.out.trans (hbq.mono HBL.out.size))
  obtain ⟨p0, p1, p2, p3, p4, p5, -, -, -, -, -, -, lp⟩ := blkc6 HB1.out
  obtain ⟨q0, q1, q2, q3, q4, q5, -, -, -, -, -, -, lq⟩ := blkc6 HB2.out
  clear hbq
  go_wp2
  go_loopw [5] (fun i wr => SNrel nodes.length W2 i wr) (fun i _ => nodes.length - (intOf i).toNat)
  case atStart => exact ⟨0, Nat.zero_le _, rfl, Below.refl _ _⟩
  case round =>
    obtain ⟨k, hk, rfl, hbl⟩ := hrel
    clear p0 p1 p2 p3 p4 p5 lp q0 q1 q2 q3 q4 q5 lq
    obtain ⟨p0, p1, p2, p3, p4, p5, -, -, -, -, -, -, lp⟩ := blkc6 (HB1.out.below hbl HB1.out.lt)
    obtain ⟨q0, q1, q2, q3, q4, q5, -, -, -, -, -, -, lq⟩ := blkc6 (HB2.out.below hbl HLT.out)
    by_cases hlt : k < nodes.length
    · obtain ⟨ba, oa, D1, d1, D2, d2, D3, d3, rfl, hla, a0, a1, a2, a3, a4⟩ := (un.past hbl).nod_at hlt
      obtain ⟨bb, ob, E1, e1, E2, e2, E3, e3, rfl, hlb, r0, r1, r2, r3, r4⟩ := (vn.past hbl).nod_at hlt
      have hly : (k : Int) < (nodes.length : Int) := by omega
      generalize nodes[k] = x at *
      have HC := Lib.hid (sameNode_eq (hla.keep (fun h => h.drew)) (hlb.keep (fun h => h.drew)))
      have HBK := Lib.hid hbl
      clear hla hlb hbl
      go_upto_region 6 with fail
      go_cut [71] (fun s wx => s = .bool false ∧ Below wr.heap.size wr wx)
      case first =>
        go_region_with (
          go_at_call 41
          refine HC.out.mono ?_
          rintro e w4 ⟨rfl, hB4⟩)
        all_goals
          go_wp2_with fail
          go_meet
          case rel => exact ⟨rfl, (Below.refl wr.heap.size wr).drew.trans hB4⟩
      case rest =>
        obtain ⟨rfl, hbc⟩ := hcut
        have hbn : Hid (Below W2.heap.size W2 wc) := Lib.hid (HBK.out.trans (hbc.mono HBK.out.size))
        clear hbc
        go_wp2
        go_roundw
        case rel => exact ⟨k + 1, hlt, by go_num, hbn.out⟩
        case measure => simp [intOf]; omega
    · have HB3 := Lib.hid hbl
      obtain ⟨W3, hW3⟩ : ∃ W, W = wr := ⟨_, rfl⟩
      subst hW3
      have uc := uc.past hbl
      have vc := vc.past hbl
      have HB1 := Lib.hid (HB1.out.below hbl HB1.out.lt)
      have HB2 := Lib.hid (HB2.out.below hbl HLT.out)
      have HLT := Lib.hid (HB2.out.lt)
      have HBL := Lib.hid (HBL.out.trans (hbl.mono HBL.out.size))
      clear hbl
      go_wp2
      go_loopw [6] (fun i wr => SNrel inits.length W3 i wr) (fun i _ => inits.length - (intOf i).toNat)
      case atStart => exact ⟨0, Nat.zero_le _, rfl, Below.refl _ _⟩
      case round =>
        obtain ⟨k, hk, rfl, hbl⟩ := hrel
        clear p0 p1 p2 p3 p4 p5 lp q0 q1 q2 q3 q4 q5 lq
        obtain ⟨p0, p1, p2, p3, p4, p5, -, -, -, -, -, -, lp⟩ := blkc6 (HB1.out.below hbl HB1.out.lt)
        obtain ⟨q0, q1, q2, q3, q4, q5, -, -, -, -, -, -, lq⟩ := blkc6 (HB2.out.below hbl HLT.out)
        by_cases hlt : k < inits.length
        · obtain ⟨ba, oa, D1, d1, D2, d2, D3, d3, D4, d4, rfl, hla, a0, a1, a2, a3, a4, a5⟩ := (uc.past hbl).ini_at hlt
          obtain ⟨bb, ob, E1, e1, E2, e2, E3, e3, E4, e4, rfl, hlb, r0, r1, r2, r3, r4, r5⟩ := (vc.past hbl).ini_at hlt
          have hly : (k : Int) < (inits.length : Int) := by omega
          generalize inits[k] = x at *
          obtain ⟨u, us', e0, hu, h2⟩ := hla.one
          injection e0 with e0 ex
          rw [← ex] at h2
          obtain ⟨u', us2', e0', hu', h2'⟩ := hlb.one
          injection e0' with e0' ex'
          rw [← ex'] at h2'
          have HC := Lib.hid (sameTensor_eq (t := x.t) (h2.keep (fun h => h.drew)) (h2'.keep (fun h => h.drew)))
          have HBK := Lib.hid hbl
          clear hla hlb hbl h2 h2' ex ex' e0 e0' hu hu'
          go_upto_region 11 with fail
          go_cut [107] (fun s wx => s = .bool false ∧ Below wr.heap.size wr wx)
          case first =>
            go_wp2_with fail
            go_region_held3 (fun w' => w'.cell? ⟨w.heap.size, 3, none⟩ = some (.slice (some ⟨ba, oa, none⟩) inits.length c2) ∧ w'.cell? ⟨w.heap.size + 1, 3, none⟩ = some (.slice (some ⟨bb, ob, none⟩) inits.length d2x) ∧ w'.cell? ⟨ba, oa + k * 6, none⟩ = some (.string ⟨x.name.toArray⟩) ∧ w'.cell? ⟨ba, oa + k * 6 + 1, none⟩ = some (.int .i64 x.t.ty.toInt) ∧ w'.cell? ⟨ba, oa + k * 6 + 2, none⟩ = some (.slice D1 x.t.dims.length d1) ∧ w'.cell? ⟨ba, oa + k * 6 + 3, none⟩ = some (.slice D2 x.t.f.length d2) ∧ w'.cell? ⟨ba, oa + k * 6 + 4, none⟩ = some (.slice D3 x.t.i.length d3) ∧ w'.cell? ⟨ba, oa + k * 6 + 5, none⟩ = some (.slice D4 x.t.b.length d4) ∧ w'.cell? ⟨bb, ob + k * 6, none⟩ = some (.string ⟨x.name.toArray⟩) ∧ w'.cell? ⟨bb, ob + k * 6 + 1, none⟩ = some (.int .i64 x.t.ty.toInt) ∧ w'.cell? ⟨bb, ob + k * 6 + 2, none⟩ = some (.slice E1 x.t.dims.length e1) ∧ w'.cell? ⟨bb, ob + k * 6 + 3, none⟩ = some (.slice E2 x.t.f.length e2) ∧ w'.cell? ⟨bb, ob + k * 6 + 4, none⟩ = some (.slice E3 x.t.i.length e3) ∧ w'.cell? ⟨bb, ob + k * 6 + 5, none⟩ = some (.slice E4 x.t.b.length e4))
              (first | go_keep | exact ⟨(hB4.cell (World.block_lt_of_cell? wr _ p3)).trans p3, (hB4.cell (World.block_lt_of_cell? wr _ q3)).trans q3, (hB4.cell (World.block_lt_of_cell? wr _ a0)).trans a0, (hB4.cell (World.block_lt_of_cell? wr _ a1)).trans a1, (hB4.cell (World.block_lt_of_cell? wr _ a2)).trans a2, (hB4.cell (World.block_lt_of_cell? wr _ a3)).trans a3, (hB4.cell (World.block_lt_of_cell? wr _ a4)).trans a4, (hB4.cell (World.block_lt_of_cell? wr _ a5)).trans a5, (hB4.cell (World.block_lt_of_cell? wr _ r0)).trans r0, (hB4.cell (World.block_lt_of_cell? wr _ r1)).trans r1, (hB4.cell (World.block_lt_of_cell? wr _ r2)).trans r2, (hB4.cell (World.block_lt_of_cell? wr _ r3)).trans r3, (hB4.cell (World.block_lt_of_cell? wr _ r4)).trans r4, (hB4.cell (World.block_lt_of_cell? wr _ r5)).trans r5⟩)
              ((go_at_call 42; refine HC.out.mono ?_; rintro e w4 ⟨rfl, hB4⟩))
            all_goals
              go_wp2_with fail
              go_meet
              case rel => exact ⟨rfl, (Below.refl wr.heap.size wr).drew.trans hB4⟩
          case rest =>
            obtain ⟨rfl, hbc⟩ := hcut
            have hbn : Hid (Below W3.heap.size W3 wc) := Lib.hid (HBK.out.trans (hbc.mono HBK.out.size))
            clear hbc
            go_wp2
            go_roundw
            case rel => exact ⟨k + 1, hlt, by go_num, hbn.out⟩
            case measure => simp [intOf]; omega
        · go_wp2
          go_ret
          exact ⟨rfl, HBL.out.trans (hbl.mono HBL.out.size)⟩
end
end Go.Proofs.YtlhpmlknmgocoaaGreat
