/- Check. -/
import Derived.Test.YtlhpmlknmgocoaaGreatMC
namespace Go.Proofs.YtlhpmlknmgocoaaGreat
set_option linter.unusedSimpArgs false
set_option linter.unusedVariables false
open Go.RowKit

theorem HL.lt {w : World} {S : Nat → Prop} {ds : List Dat} {vs : List Value} (h : HL w S ds vs) : HL w (fun b => S b ∧ b < w.heap.size) ds vs := h.keep fun hd => hd.lt
def badI (c : Ini) : Bool := badT c.t
def manyI (c : Ini) : Bool := longP c.name || manyT false c.t
section
variable {S : Nat → Prop} {us : List Value} {w : World}
set_option maxRecDepth 100000 in
set_option maxHeartbeats 1600000 in
theorem check_any {m : Mo} (hl : HL w S (datM m) us) :
    Calls Tryz.prog 6 #[.agg us.toArray] w (fun e w' => e = .returned (.int .i64 (chk false m)) ∧ Below w.heap.size w w') := by
  have hl := hl.lt
  have hS : ¬ (fun b => S b ∧ b < w.heap.size) (w.heap.size + 1) := fun h => by have := h.2; omega
  generalize (fun b => S b ∧ b < w.heap.size) = S' at *
  obtain ⟨A1, c1, A2, c2, A3, c3, A4, c4, rfl, hno, hin, hip, hou, b1, b2, b3, b4⟩ := hl.mod
  obtain ⟨ops, nm, nodes, inits, inputs, outputs⟩ := m
  dsimp only at *
  clear hl
  have HOP : Hid (decide (ops = 17) = decide (ops.toInt = 17)) := Lib.hid (by rw [decide_eq_decide, ← Int64.toInt_inj]; rfl)
  go_enter Tryz.func6, Tryz.ntmps6
  go_upto_region 1 with fail
  go_cut [3] (fun s wx => s = .pointer (some ⟨w.heap.size + 1, 0, none⟩) ∧ wx = (w.alloc (.cells #[.int .i64 ops.toInt, .string ⟨nm.toArray⟩, .slice A1 nodes.length c1, .slice A2 inits.length c2, .slice A3 inputs.length c3, .slice A4 outputs.length c4] 26)).alloc (.cells #[.bool (!decide (ops = 17)), .bool (decide (1024 < nodes.length) || decide (1024 < inits.length))] 63))
  case first =>
    as_aux_lemma =>
      have HO := Lib.hid HOP.out
      have hop : ops.toInt = 17 ∨ ¬ ops.toInt = 17 := Classical.em _
      generalize ops.toInt = od at *
      have hmx : (inits.length : Int) > nodes.length ∨ ¬ (inits.length : Int) > nodes.length := Classical.em _
      rcases hop with rfl | hop
      · rcases hmx with hmx | hmx
        all_goals
          go_wp2
          go_meet
          case rel =>
            refine ⟨rfl, ?_⟩
            rw [HO.out]
            have : decide (1024 < (nodes.length : Int)) = decide (1024 < nodes.length) := by rw [decide_eq_decide]; omega
            congr 5
            all_goals first | rfl | (refine congrArg Value.bool ?_; rw [Bool.eq_iff_iff]; simp only [Bool.or_eq_true, decide_eq_true_eq]; omega)
      · have e1 : (od == 17) = false := by simpa using hop
        have e2 : decide (od = 17) = false := by simpa using hop
        have HE2 := Lib.hid e2
        clear e2
        rcases hmx with hmx | hmx
        all_goals
          go_wp2
          go_meet
          case rel =>
            refine ⟨rfl, ?_⟩
            rw [HO.out, HE2.out]
            congr 5
            all_goals first | rfl | (simp [bne, e1]; done) | (refine congrArg Value.bool ?_; rw [Bool.eq_iff_iff]; simp only [Bool.or_eq_true, decide_eq_true_eq]; omega)
  case rest =>
    obtain ⟨rfl, hcut⟩ := hcut
    have hlt : w.heap.size + 1 < wc.heap.size := by rw [hcut]; simp
    have hk1 : WrB wc (w.heap.size + 1) (!decide (ops = 17)) (decide (1024 < nodes.length) || decide (1024 < inits.length)) := by
      rw [hcut]; exact Blk.new' _ _ _ (by simp)
    have hb1 : Blk wc w.heap.size 26 #[.int .i64 ops.toInt, .string ⟨nm.toArray⟩, .slice A1 nodes.length c1, .slice A2 inits.length c2, .slice A3 inputs.length c3, .slice A4 outputs.length c4] := by
      rw [hcut]; exact (Blk.new _ _ _).alloc _
    have hbel : Below w.heap.size w wc := by rw [hcut]; exact ((Below.refl _ _).alloc (Nat.le_refl _) _).alloc (by simp) _
    have hno := hno.past hbel
    have hin := hin.past hbel
    have hip := hip.past hbel
    have hou := hou.past hbel
    have HCH : Hid (chk false ⟨ops, nm, nodes, inits, inputs, outputs⟩ = if (((((!decide (ops = 17)) || nodes.any badN) || inits.any badI) || inputs.any badV) || outputs.any badV) = true then 1 else
        if ((((((((decide (1024 < nodes.length) || decide (1024 < inits.length)) || [nm].any longP) || nodes.any (manyN false)) || inits.any manyI) || decide (64 < inputs.length)) || inputs.any manyV) || decide (64 < outputs.length)) || outputs.any manyV) = true then 8 else 0) := Lib.hid (by
      simp [chk, badM, manyM, Bool.or_assoc, badI, badC, manyC, manyI])
    clear hcut
    obtain ⟨W1, hW⟩ : ∃ W, W = wc := ⟨_, rfl⟩
    subst hW
    obtain ⟨p, hp⟩ : ∃ p, w.heap.size = p := ⟨_, rfl⟩
    obtain ⟨g, hg⟩ : ∃ g, w.heap.size + 1 = g := ⟨_, rfl⟩
    have hpg : p + 1 = g := by omega
    rw [hg] at hk1 hS hlt
    rw [hp] at hb1
    have HP := Lib.hid hp
    have HBEL := Lib.hid hbel
    have hBW : w.heap.size ≤ W1.heap.size := hbel.size
    rw [hg, hp]
    clear hp hg hbel
    generalize (decide (1024 < nodes.length) || decide (1024 < inits.length)) = m0 at *
    generalize (!decide (ops = 17)) = b0 at *
    obtain ⟨p0, p1, p2, p3, p4, p5, -, -, -, -, -, -, lp⟩ := blkc6 hb1
    have HC := Lib.hid (wname_any (hk1.alloc (.cells #[.string ⟨nm.toArray⟩] 9)) (held_name1 W1 nm (q := W1.heap.size) rfl) (by omega))
    have HB1 := Lib.hid hb1
    clear hk1 hb1
    go_wp2_with fail
    refine Calls.mono HC.out ?_
    rintro e w2 ⟨rfl, hk2, hg2⟩
    have hg20 : W1.grownBy w2 (some g) := grown_trans (grown_alloc _ _) hg2
    clear HC p0 p1 p2 p3 p4 p5 lp hg2
    obtain ⟨p0, p1, p2, p3, p4, p5, -, -, -, -, -, -, lp⟩ := blkc6 (HB1.out.grown hg20 (fun e => by injection e with e; omega))
    have HK2 := Lib.hid hk2
    clear hk2
    go_wp2
    go_loopw [29] (fun i wr => NLrel badN (manyN false) nodes W1 g b0 (m0 || [nm].any longP) i wr) (fun i _ => nodes.length - (intOf i).toNat)
    case atStart => exact NLrel.start HK2.out hg20
    case round =>
      obtain ⟨k, hk', rfl, hkr, hgr⟩ := hrel
      by_cases hlt' : k < nodes.length
      · obtain ⟨bx, off, D1, d1, D2, d2, D3, d3, rfl, hla, a0, a1, a2, a3, a4⟩ := (hno.rd hS hgr).nod_at hlt'
        have HT1 := Lib.hid (any_take1 badN hlt')
        have HT2 := Lib.hid (any_take1 (manyN false) hlt')
        generalize nodes[k] = a at *
        have HC := fun cs => Lib.hid (wnode_any (hkr.alloc (.cells cs 48)) (hla.keep (fun h => h.alloc _)) hS)
        have HGR := Lib.hid hgr
        clear hla hkr p0 p1 p2 p3 p4 p5 lp hg20
        go_wp2_with fail
        refine Calls.mono (HC _).out ?_
        rintro e' w7 ⟨rfl, hk7, hg7⟩
        have HK7 := Lib.hid hk7
        clear hk7
        go_wp2
        go_roundw
        case rel => exact ⟨k + 1, hlt', by go_num, HK7.out.to (by rw [HT1.out, Bool.or_assoc]) (by rw [HT2.out]; simp only [Bool.or_assoc]), grown_trans HGR.out (grown_trans (grown_alloc _ _) hg7)⟩
        case measure => simp [intOf]; omega
      · have hke : k = nodes.length := by omega
        subst hke
        rw [List.take_length] at hkr
        have HKR := Lib.hid hkr
        clear hkr p0 p1 p2 p3 p4 p5 lp hg20 HK2
        obtain ⟨p0, p1, p2, p3, p4, p5, -, -, -, -, -, -, lp⟩ := blkc6 (HB1.out.grown hgr (fun e => by injection e with e; omega))
        generalize (b0 || nodes.any badN) = b7 at *
        generalize ((m0 || [nm].any longP) || nodes.any (manyN false)) = m7 at *
        obtain ⟨W8, hW8⟩ : ∃ W, W = wr := ⟨_, rfl⟩
        subst hW8
        have HG8 := Lib.hid hgr
        clear hgr
        go_wp2
        go_loopw [40] (fun i wr => NLrel badI manyI inits W1 g b7 m7 i wr) (fun i _ => inits.length - (intOf i).toNat)
        case atStart => exact NLrel.start HKR.out HG8.out
        case round =>
          obtain ⟨k, hk', rfl, hkr, hgr⟩ := hrel
          by_cases hlt' : k < inits.length
          · obtain ⟨bx, off, D1, d1, D2, d2, D3, d3, D4, d4, rfl, hla, a0, a1, a2, a3, a4, a5⟩ := (hin.rd hS hgr).ini_at hlt'
            have HT1 := Lib.hid (any_take1 badI hlt')
            have HT2 := Lib.hid (any_take1 manyI hlt')
            generalize inits[k] = a at *
            have HV1 : Hid (badI a = badT a.t) := Lib.hid rfl
            have HV2 : Hid (manyI a = (longP a.name || manyT false a.t)) := Lib.hid rfl
            obtain ⟨u, us', e0, hu, hlt2⟩ := hla.one
            injection e0 with e0 e1
            rw [← e1] at hlt2
            have hgw := hkr.lt
            have hz := hgr.size
            have HLT := Lib.hid hlt2
            have HC := fun cs => Lib.hid (wname_any ((hkr.alloc (.cells cs 57)).alloc (.cells #[.string ⟨a.name.toArray⟩] 9)) (held_name1 _ a.name (q := wr.heap.size + 1) (by simp)) (by omega))
            have HGR := Lib.hid hgr
            clear hla hkr p0 p1 p2 p3 p4 p5 lp hlt2 e0 e1 hu
            go_wp2_with fail
            refine Calls.mono (HC _).out ?_
            rintro e' w9 ⟨rfl, hk9, hg9⟩
            have hb9 := ((Blk.new wr 57 #[.string ⟨a.name.toArray⟩, .int .i64 a.t.ty.toInt, .slice D1 a.t.dims.length d1, .slice D2 a.t.f.length d2, .slice D3 a.t.i.length d3, .slice D4 a.t.b.length d4]).alloc (.cells #[.string ⟨a.name.toArray⟩] 9)).grown hg9 (fun e => by injection e with e; omega)
            have hg90 : wr.grownBy w9 (some g) := grown_trans (grown_trans (grown_alloc _ _) (grown_alloc _ _)) hg9
            obtain ⟨p0, p1, p2, p3, p4, p5, -, -, -, -, -, -, lp⟩ := blkc6 hb9
            have HC2 := Lib.hid (wtensor_any hk9 (HLT.out.rd hS hg90))
            clear hb9 hk9 hg9 HC
            go_wp2_with fail
            refine Calls.mono HC2.out ?_
            rintro e' w10 ⟨rfl, hk10, hg10⟩
            have HK10 := Lib.hid hk10
            clear hk10 HC2
            go_wp2
            go_roundw
            case rel => exact ⟨k + 1, hlt', by go_num, HK10.out.to (by rw [HT1.out, HV1.out, Bool.or_assoc]) (by rw [HT2.out, HV2.out]; simp [Bool.or_assoc]), grown_trans HGR.out (grown_trans hg90 hg10)⟩
            case measure => simp [intOf]; omega
          · have hke : k = inits.length := by omega
            subst hke
            rw [List.take_length] at hkr
            clear HKR p0 p1 p2 p3 p4 p5 lp HG8
            obtain ⟨p0, p1, p2, p3, p4, p5, -, -, -, -, -, -, lp⟩ := blkc6 (HB1.out.grown hgr (fun e => by injection e with e; omega))
            generalize (b7 || inits.any badI) = b8 at *
            generalize (m7 || inits.any manyI) = m8 at *
            have HC := Lib.hid (wvalues_any hkr (hip.rd hS hgr) hS)
            have HGR := Lib.hid hgr
            clear hkr
            go_wp2_with fail
            refine Calls.mono HC.out ?_
            rintro e' w9 ⟨rfl, hk9, hg9⟩
            have hg90 : W1.grownBy w9 (some g) := grown_trans HGR.out hg9
            clear p0 p1 p2 p3 p4 p5 lp HC
            obtain ⟨p0, p1, p2, p3, p4, p5, -, -, -, -, -, -, lp⟩ := blkc6 (HB1.out.grown hg90 (fun e => by injection e with e; omega))
            have HC2 := Lib.hid (wvalues_any hk9 (hou.rd hS hg90) hS)
            clear hk9
            go_wp2_with fail
            refine Calls.mono HC2.out ?_
            rintro e' w10 ⟨rfl, hk10, hg10⟩
            have hg100 : W1.grownBy w10 (some g) := grown_trans hg90 hg10
            have HBL : Hid (Below w.heap.size w w10) := Lib.hid (HBEL.out.grown hg100 hBW (fun k e => by injection e with e; have := HP.out; omega))
            generalize ((b8 || inputs.any badV) || outputs.any badV) = bF at *
            generalize ((((m8 || decide (64 < inputs.length)) || inputs.any manyV) || decide (64 < outputs.length)) || outputs.any manyV) = mF at *
            obtain ⟨k0, k1, z0, z1, hgw⟩ := hk10.cells
            clear p0 p1 p2 p3 p4 p5 lp HC2 hk10
            cases bF
            · cases mF
              all_goals
                go_wp2
                go_ret
                rw [HCH.out]
                exact ⟨rfl, HBL.out⟩
            · go_wp2
              go_ret
              rw [HCH.out]
              exact ⟨rfl, HBL.out⟩
end
end Go.Proofs.YtlhpmlknmgocoaaGreat
