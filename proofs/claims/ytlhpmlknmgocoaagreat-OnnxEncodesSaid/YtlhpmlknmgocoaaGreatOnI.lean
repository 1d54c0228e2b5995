/- The reader's tensor. -/
import Derived.Test.YtlhpmlknmgocoaaGreatOnH
namespace Go.Proofs.YtlhpmlknmgocoaaGreat
set_option linter.unusedSimpArgs false
set_option linter.unusedVariables false
open Go.RowKit
def TenR (w : World) (g : Nat) (f : Fl) (r : Ini × Fl) (e : Ending) (w' : World) : Prop :=
  ∃ (x : Ini) (A1 : Option Addr) (n1 c1 : Nat) (A2 : Option Addr) (n2 c2 : Nat) (A3 : Option Addr) (n3 c3 : Nat) (A4 : Option Addr) (n4 c4 : Nat), ((f.or r.2).bad = false → x = r.1) ∧
    e = .returned (.agg #[.string ⟨x.name.toArray⟩, .int .i64 x.t.ty.toInt, .slice A1 n1 c1, .slice A2 n2 c2, .slice A3 n3 c3, .slice A4 n4 c4]) ∧
    Held w' (Inb w.heap.size w'.heap.size) (datI x.t.dims) (.slice A1 n1 c1) ∧ Held w' (Inb w.heap.size w'.heap.size) (datF x.t.f) (.slice A2 n2 c2) ∧
    Held w' (Inb w.heap.size w'.heap.size) (datI x.t.i) (.slice A3 n3 c3) ∧ Held w' (Inb w.heap.size w'.heap.size) (datO x.t.b) (.slice A4 n4 c4) ∧ RdB w' g (f.or r.2) ∧ w.grownBy w' (some g)

theorem ten_out (w : World) (tmps : Array Value) (g : Nat) (c0 c1 c2 c3 c4 c5 : Value) (h4 : tmps.getD 4 undef = .pointer (some ⟨g, 0, none⟩)) (hk : Blk w g 57 #[c0, c1, c2, c3, c4, c5]) :
    (results Tryz.f69 tmps).run Tryz.prog w = .ok (.agg #[c0, c1, c2, c3, c4, c5]) w := by
  obtain ⟨k0, k1, k2, k3, k4, k5, -⟩ := blkc6 hk
  rw [Array.getD_eq_getD_getElem?] at h4
  simp [results, Tryz.results69, go_sem, h4, k0, k1, k2, k3, k4, k5]
def BLrel (ls : List Int64) (w WX : World) (g : Nat) (nm : List UInt8) (dv : Value) (di : List Int64) (sv : Value) (F : Fl) (p : Nat) (i : Value) (wr : World) : Prop :=
  ∃ (k : Nat) (A1 : Option Addr) (c1 : Nat), k ≤ ls.length ∧ i = .int .i64 (k : Int) ∧ TS w wr g w.heap.size p 57 (F.or (flb ((ls.take k).any fun x => !decide (x = 0) && !decide (x = 1)))) #[.string ⟨nm.toArray⟩, .int .i64 9, dv, .slice none 0 0, .slice none 0 0, .slice A1 k c1] #[.string ⟨#[]⟩, .int .i64 0, .slice none 0 0, .slice none 0 0, .slice none 0 0, .slice none 0 0] ∧
    HRow wr WX.heap.size 4 1 (.slice A1 k c1) k ((ls.take k).map fun x => Dat.leaf (.bool (decide (x = 1)))) ∧ Held wr (fun b => DT w p w.heap.size b ∧ b < WX.heap.size) (datI di) dv ∧ Held wr (fun b => DT w p w.heap.size b ∧ b < WX.heap.size) (datI ls) sv ∧ WX.heap.size ≤ wr.heap.size
section
variable {g : Nat} {f : Fl} {S : Nat → Prop} {v : Value} {w : World}
set_option maxRecDepth 100000 in
set_option maxHeartbeats 25600000 in
theorem tensor_any {b : List UInt8} (hk : RdB w g f) (hv : Held w S (datB b) v) :
    Calls Tryz.prog 69 #[.pointer (some ⟨g, 0, none⟩), v] w (TenR w g f (dTensor b)) := by
  have hlt := hk.lt
  have hsm := dFields_sm b
  obtain ⟨A, c, rfl, -⟩ := hv.dv
  go_enter Tryz.func69, Tryz.ntmps69
  go_wp2_with fail
  refine Calls.mono (fields_any (hk.alloc _) (hv.alloc _)) ?_
  rintro e W1 ⟨u1, rfl, h1, k1, g1⟩
  obtain ⟨⟨fs, fl1⟩, hfs⟩ : ∃ r, dFields b = r := ⟨_, rfl⟩
  rw [hfs] at hsm h1 k1
  obtain ⟨A1, c1, rfl, -⟩ := h1.rf
  have HFS := Lib.hid hfs
  dsimp only at hsm h1 k1
  clear hv hfs
  go_wp2_with fail
  refine Calls.mono (name_any 8 k1 h1 hsm) ?_
  rintro e W2 ⟨rfl, k2, g2⟩
  have hz1 := g1.size
  have hz2 := g2.size
  obtain ⟨nm, hnm⟩ : ∃ nm, (dText fs 8 256).1 = nm := ⟨_, rfl⟩
  rw [hnm, show strV nm = .string ⟨nm.toArray⟩ from rfl]
  have HNM := Lib.hid hnm
  have ts2 := TS.start (cs := #[.string ⟨nm.toArray⟩, .int .i64 0, .slice none 0 0, .slice none 0 0, .slice none 0 0, .slice none 0 0]) hlt rfl (grown_trans g1 g2) k2
  have dfs : Held W2 (DT w W2.heap.size w.heap.size) (datFs fs) (.slice A1 fs.length c1) := (h1.mono (fun b hb => by have := hb.1; have := hb.2; simp at *; exact ⟨by omega, by omega, by omega⟩)).rd (S := DT w W2.heap.size w.heap.size) (fun h => by have := h.1; omega) g2
  have dfs' := dfs.alloc (.cells #[.string ⟨nm.toArray⟩, .int .i64 0, .slice none 0 0, .slice none 0 0, .slice none 0 0, .slice none 0 0] 57)
  clear dfs
  have dfs := dfs'
  have hgp : g ≠ W2.heap.size := by simp at hz1; omega
  have hpg : W2.heap.size ≠ g := by omega
  have hgq : g ≠ w.heap.size := by omega
  have hqg : w.heap.size ≠ g := by omega
  have hpq : W2.heap.size ≠ w.heap.size := by simp at hz1; omega
  have hqp : w.heap.size ≠ W2.heap.size := by omega
  clear dfs' hnm h1 hk k1 k2 g1 g2
  go_wp2_with fail
  refine Calls.mono (oints_any 1 ts2.k dfs hsm) ?_
  rintro e W3 ⟨u3, rfl, h3, k3, g3⟩
  have ts3 := ts2.call k3 g3
  have dfs' := dfs.dcall ts2 g3
  clear dfs
  have dfs := dfs'
  clear dfs'
  have di3 := h3.dt ts2
  clear h3
  clear k3 g3
  have hdl : (dInts fs 1).1.length ≤ 4194304 := by
    have h9 := hsm.2.1
    simp only [dInts]
    cases h : ints 1 fs with
    | none => simp
    | some l => have := ints_len h; simp; omega
  generalize hdi : (dInts fs 1).1 = di at *
  have HDI := Lib.hid hdi
  clear hdi
  have hcv := cnt_val di
  obtain ⟨⟨cn, ce⟩, hcn⟩ : ∃ r, cnt di = r := ⟨_, rfl⟩
  have HCN := Lib.hid hcn
  obtain ⟨cN, hcN⟩ : ∃ n : Nat, (n : Int) = cn := ⟨cn.toNat, by rw [hcn] at hcv; dsimp only at hcv; omega⟩
  subst hcN
  rw [hcn] at hcv
  dsimp only at hcv
  go_wp2_with fail
  refine Calls.mono (dims_any ts3.k di3 hdl) ?_
  rintro e W4 ⟨Ad, nd, cd, rfl, h4, k4, g4⟩
  have ts4 := ts3.call k4 g4
  have dfs' := dfs.dcall ts3 g4
  clear dfs
  have dfs := dfs'
  clear dfs'
  have dd4 := h4.dt ts3
  clear h4 di3
  rw [hcn]
  obtain ⟨cf, hcf⟩ : ∃ c, decide (ce = 0) = c := ⟨_, rfl⟩
  dsimp only
  rw [hcf]
  have HCF := Lib.hid hcf
  clear hcn hcf
  clear k4 g4
  obtain ⟨b0_1, b1_1, b2_1, B0_1, B1_1, B2_1, k0_1, k1_1, k2_1, z0_1, z1_1, z2_1, lg_1⟩ := ts4.fl
  obtain ⟨p0_1, p1_1, p2_1, p3_1, p4_1, p5_1, y0_1, y1_1, y2_1, y3_1, y4_1, y5_1, lp_1⟩ := blkc6 ts4.bp
  have tp2 := ts4.setP 2 (.slice Ad nd cd)
  have dfs' := dfs.dP 2 (.slice Ad nd cd)
  clear dfs
  have dfs := dfs'
  clear dfs'
  have dd4' := dd4.dP 2 (.slice Ad nd cd)
  clear dd4
  have dd4 := dd4'
  clear dd4'
  obtain ⟨kd, hkd⟩ : ∃ k, (dNum fs 2).1.1 = k := ⟨_, rfl⟩
  obtain ⟨kb, hkb⟩ : ∃ k, (dNum fs 2).1.2 = k := ⟨_, rfl⟩
  obtain ⟨ki, hki⟩ : ∃ k, kd.toInt = k := ⟨_, rfl⟩
  have HKD := Lib.hid hkd
  have HKI := Lib.hid hki
  go_wp2_with fail
  refine Calls.mono (number_any 2 tp2.k dfs hsm) ?_
  rintro e W5 ⟨rfl, k5, g5⟩
  have ts5 := tp2.call k5 g5
  have dfs' := dfs.dcall tp2 g5
  clear dfs
  have dfs := dfs'
  clear dfs'
  have dd4' := dd4.dcall tp2 g5
  clear dd4
  have dd4 := dd4'
  clear dd4'
  clear k5 g5
  clear k0_1 k1_1 k2_1 z0_1 z1_1 z2_1 lg_1 p0_1 p1_1 p2_1 p3_1 p4_1 p5_1 y0_1 y1_1 y2_1 y3_1 y4_1 y5_1 lp_1
  rw [hkd, hkb, hki]
  clear hkd hkb hki
  obtain ⟨pd, hpd⟩ : ∃ k, (dNum fs 14).1.1 = k := ⟨_, rfl⟩
  obtain ⟨pb, hpb⟩ : ∃ k, (dNum fs 14).1.2 = k := ⟨_, rfl⟩
  obtain ⟨pl, hpl⟩ : ∃ k, pd.toInt = k := ⟨_, rfl⟩
  have HPD := Lib.hid hpd
  have HPL := Lib.hid hpl
  go_wp2_with fail
  refine Calls.mono (number_any 14 ts5.k dfs hsm) ?_
  rintro e W6 ⟨rfl, k6, g6⟩
  have ts6 := ts5.call k6 g6
  have dfs' := dfs.dcall ts5 g6
  clear dfs
  have dfs := dfs'
  clear dfs'
  have dd4' := dd4.dcall ts5 g6
  clear dd4
  have dd4 := dd4'
  clear dd4'
  clear k6 g6
  rw [hpd, hpb, hpl]
  clear hpd hpb hpl
  go_wp2_with fail
  refine Calls.mono (list_Int 3 fs.length ts6.k dfs hsm) ?_
  rintro e W7 ⟨u7, rfl, h7, k7, g7⟩
  have ts7 := ts6.call k7 g7
  have dfs' := dfs.dcall ts6 g7
  clear dfs
  have dfs := dfs'
  clear dfs'
  have dd4' := dd4.dcall ts6 g7
  clear dd4
  have dd4 := dd4'
  clear dd4'
  clear k7 g7
  obtain ⟨pa, hpa⟩ : ∃ l, (dList dZero fs 3 fs.length).1 = l := ⟨_, rfl⟩
  rw [hpa] at h7
  have HPA := Lib.hid hpa
  clear hpa
  obtain ⟨Ap, cp, rfl, -⟩ := Held.rows (f := fun x => [lfI x]) (n := 1) (fun _ => rfl) (by omega) h7
  obtain ⟨np, hnp⟩ : ∃ n, pa.length = n := ⟨_, rfl⟩
  rw [hnp]
  have HNP := Lib.hid hnp
  clear h7 hnp
  obtain ⟨b0_3, b1_3, b2_3, B0_3, B1_3, B2_3, k0_3, k1_3, k2_3, z0_3, z1_3, z2_3, lg_3⟩ := ts7.fl
  obtain ⟨cz, hcz⟩ : ∃ c, (ki == 0) = c := ⟨_, rfl⟩
  have HCZ := Lib.hid hcz
  go_upto_region 9 with fail
  go_cut [] (fun wx => wx = W7.setCell ⟨g, 0, none⟩ (.bool (b0_3 || cz)))
  case first =>
    as_aux_lemma =>
      cases b0_3 <;> cases cz
      all_goals
        go_wp2
        go_meet
        case rel => simp
  case rest =>
    focus
      have ts8 := ts7.or0 cz (b := (b0_3 || cz)) (by rw [B0_3.out])
      have dfs' := dfs.dG hlt 0 (.bool (b0_3 || cz))
      clear dfs
      have dfs := dfs'
      clear dfs'
      have dd4' := dd4.dG hlt 0 (.bool (b0_3 || cz))
      clear dd4
      have dd4 := dd4'
      clear dd4'
      rw [← hcut] at ts8 dfs dd4
      clear hcut
      clear k0_3 k1_3 k2_3 z0_3 z1_3 z2_3 lg_3
      obtain ⟨W8, hWk⟩ : ∃ W, W = wc := ⟨_, rfl⟩
      subst hWk
      obtain ⟨b0_4, b1_4, b2_4, B0_4, B1_4, B2_4, k0_4, k1_4, k2_4, z0_4, z1_4, z2_4, lg_4⟩ := ts8.fl
      obtain ⟨c1, hc1⟩ : ∃ c, (ki != 0) = c := ⟨_, rfl⟩
      obtain ⟨c2, hc2⟩ : ∃ c, knownI ki = c := ⟨_, rfl⟩
      obtain ⟨c3, hc3⟩ : ∃ c, (pl != 0) = c := ⟨_, rfl⟩
      obtain ⟨c4, hc4⟩ : ∃ c, decide (0 < np) = c := ⟨_, rfl⟩
      have HC1 := Lib.hid hc1
      have HC2 := Lib.hid hc2
      have HC3 := Lib.hid hc3
      have HC4 := Lib.hid hc4
      clear hc2
      go_upto_region 10 with fail
      go_cut [] (fun wx => wx = W8.setCell ⟨g, 1, none⟩ (.bool (b1_4 || ((c1 && !c2) || c3 || c4))))
      case first =>
        as_aux_lemma =>
          have hw : b1_4 = true ∨ (b1_4 = false ∧ c1 = true ∧ c2 = false) ∨ (b1_4 = false ∧ c1 = true ∧ c2 = true ∧ c3 = true) ∨ (b1_4 = false ∧ c1 = true ∧ c2 = true ∧ c3 = false ∧ c4 = true) ∨ (b1_4 = false ∧ c1 = true ∧ c2 = true ∧ c3 = false ∧ c4 = false) ∨
              (b1_4 = false ∧ c1 = false ∧ c3 = true) ∨ (b1_4 = false ∧ c1 = false ∧ c3 = false ∧ c4 = true) ∨ (b1_4 = false ∧ c1 = false ∧ c3 = false ∧ c4 = false) := by
            clear hc1 hc3 hc4
            cases b1_4 <;> cases c1 <;> cases c2 <;> cases c3 <;> cases c4 <;> simp
          rcases hw with rfl | ⟨rfl, rfl, rfl⟩ | ⟨rfl, rfl, rfl, rfl⟩ | ⟨rfl, rfl, rfl, rfl, rfl⟩ | ⟨rfl, rfl, rfl, rfl, rfl⟩ | ⟨rfl, rfl, rfl⟩ | ⟨rfl, rfl, rfl, rfl⟩ | ⟨rfl, rfl, rfl, rfl⟩
          all_goals
            try (have hnp := of_decide_eq_true hc4)
            try (have hnp := of_decide_eq_false hc4)
            go_wp2_with (go_at_call 50; refine Calls.mono (known_any _ _) ?_; rintro e' w' ⟨rfl, hw'⟩; subst w'; rw [HC2.out])
            go_meet
            case rel => simp
      case rest =>
        focus
          have ts9 := ts8.or1 ((c1 && !c2) || c3 || c4) (b := (b1_4 || ((c1 && !c2) || c3 || c4))) (by rw [B1_4.out])
          have dfs' := dfs.dG hlt 1 (.bool (b1_4 || ((c1 && !c2) || c3 || c4)))
          clear dfs
          have dfs := dfs'
          clear dfs'
          have dd4' := dd4.dG hlt 1 (.bool (b1_4 || ((c1 && !c2) || c3 || c4)))
          clear dd4
          have dd4 := dd4'
          clear dd4'
          rw [← hcut] at ts9 dfs dd4
          clear hcut
          clear k0_4 k1_4 k2_4 z0_4 z1_4 z2_4 lg_4
          obtain ⟨W9, hWk⟩ : ∃ W, W = wc := ⟨_, rfl⟩
          subst hWk
          go_wp2_with fail
          refine Calls.mono (floats_any 4 ts9.k dfs hsm) ?_
          rintro e W10 ⟨u10, rfl, h10, k10, g10⟩
          have ts10 := ts9.call k10 g10
          have dfs' := dfs.dcall ts9 g10
          clear dfs
          have dfs := dfs'
          clear dfs'
          have dd4' := dd4.dcall ts9 g10
          clear dd4
          have dd4 := dd4'
          clear dd4'
          have dF := h10.dt ts9
          clear h10
          clear k10 g10
          go_wp2_with fail
          refine Calls.mono (oints_any 5 ts10.k dfs hsm) ?_
          rintro e W11 ⟨u11, rfl, h11, k11, g11⟩
          have ts11 := ts10.call k11 g11
          have dfs' := dfs.dcall ts10 g11
          clear dfs
          have dfs := dfs'
          clear dfs'
          have dd4' := dd4.dcall ts10 g11
          clear dd4
          have dd4 := dd4'
          clear dd4'
          have dF' := dF.dcall ts10 g11
          clear dF
          have dF := dF'
          clear dF'
          have dS := h11.dt ts10
          clear h11
          clear k11 g11
          go_wp2_with fail
          refine Calls.mono (oints_any 7 ts11.k dfs hsm) ?_
          rintro e W12 ⟨u12, rfl, h12, k12, g12⟩
          have ts12 := ts11.call k12 g12
          have dfs' := dfs.dcall ts11 g12
          clear dfs
          have dfs := dfs'
          clear dfs'
          have dd4' := dd4.dcall ts11 g12
          clear dd4
          have dd4 := dd4'
          clear dd4'
          have dF' := dF.dcall ts11 g12
          clear dF
          have dF := dF'
          clear dF'
          have dS' := dS.dcall ts11 g12
          clear dS
          have dS := dS'
          clear dS'
          have dL := h12.dt ts11
          clear h12
          clear k12 g12
          go_wp2_with fail
          refine Calls.mono (list_Byt 9 fs.length ts12.k dfs hsm) ?_
          rintro e W13 ⟨u13, rfl, h13, k13, g13⟩
          have ts13 := ts12.call k13 g13
          have dfs' := dfs.dcall ts12 g13
          clear dfs
          have dfs := dfs'
          clear dfs'
          have dd4' := dd4.dcall ts12 g13
          clear dd4
          have dd4 := dd4'
          clear dd4'
          have dF' := dF.dcall ts12 g13
          clear dF
          have dF := dF'
          clear dF'
          have dS' := dS.dcall ts12 g13
          clear dS
          have dS := dS'
          clear dS'
          have dL' := dL.dcall ts12 g13
          clear dL
          have dL := dL'
          clear dL'
          have dR := h13.dt ts12
          clear h13
          clear k13 g13
          obtain ⟨lf, hlf⟩ : ∃ l, (dFloats fs 4).1 = l := ⟨_, rfl⟩
          obtain ⟨ls, hls⟩ : ∃ l, (dInts fs 5).1 = l := ⟨_, rfl⟩
          obtain ⟨ll, hll⟩ : ∃ l, (dInts fs 7).1 = l := ⟨_, rfl⟩
          obtain ⟨ra, hra⟩ : ∃ l, (dList dRaw fs 9 fs.length).1 = l := ⟨_, rfl⟩
          have hlfl := dFloats_len hsm 4
          have hlsl := dInts_len hsm 5
          have hlll := dInts_len hsm 7
          have hrl : ra.length ≤ 4194304 := by rw [← hra]; exact dList_len hsm
          have hrd : ∀ i (hi : i < ra.length), ra[i].length ≤ 4194304 := by
            rw [← hra]
            exact fun i hi => dRaw_len hsm hi
          have HRD := Lib.hid hrd
          rw [hlf] at dF hlfl
          rw [hls] at dS hlsl
          rw [hll] at dL hlll
          rw [hra, row_ones] at dR
          have HLF := Lib.hid hlf
          have HLS := Lib.hid hls
          have HLL := Lib.hid hll
          have HRA := Lib.hid hra
          have HSUM : Hid (tenSum fs = lf.length + ls.length + ll.length) := Lib.hid (by unfold tenSum; rw [hlf, hls, hll])
          have tsb := ts13.to (f' := f.or (fl1.or (tenFl fs))) (by rw [← HDI.out]; exact tenFl_eq (by rw [HKD.out, HKI.out]) (by rw [HPD.out, HPL.out]) (by rw [HPA.out, HNP.out]) HCZ.out HC1.out HC2.out HC3.out HC4.out)
          clear ts13 hrd hlf hls hll hra hcz hc1 hc3 hc4
          obtain ⟨AF, cF, rfl, -⟩ := Held.leaves dF
          obtain ⟨AS, cS, rfl, -⟩ := Held.leaves dS
          obtain ⟨AL, cL, rfl, -⟩ := Held.leaves dL
          obtain ⟨AR, cR, rfl, -⟩ := Held.ones dR
          have hw : cf = false ∨ (cf = true ∧ c2 = false) ∨ (cf = true ∧ c2 = true) := by
            cases cf <;> cases c2 <;> simp
          rcases hw with rfl | ⟨rfl, rfl⟩ | ⟨rfl, rfl⟩
          ·
            focus
              obtain ⟨b0_5, b1_5, b2_5, B0_5, B1_5, B2_5, k0_5, k1_5, k2_5, z0_5, z1_5, z2_5, lg_5⟩ := tsb.fl
              obtain ⟨p0_5, p1_5, p2_5, p3_5, p4_5, p5_5, y0_5, y1_5, y2_5, y3_5, y4_5, y5_5, lp_5⟩ := blkc6 tsb.bp
              obtain ⟨q0_5, q1_5, q2_5, q3_5, q4_5, q5_5, x0_5, x1_5, x2_5, x3_5, x4_5, x5_5, lq_5⟩ := blkc6 tsb.bq
              have HE : Hid (dTensor b = (⟨nm, ⟨0, di, [], [], []⟩⟩, fl1.or (tenFl fs))) := Lib.hid (by
                rw [dTensor_at HFS.out (dTenL_out (by rw [HDI.out, HCN.out, HCF.out, knownP_int, HKD.out, HKI.out, HC2.out]; simp)), HNM.out, HDI.out])
              go_wp2_with (go_at_call 50; refine Calls.mono (known_any _ _) ?_; rintro e' w' ⟨rfl, hw'⟩; subst w'; rw [HC2.out])
              refine bodyPost_ret (ten_out _ _ w.heap.size _ _ _ _ _ _ rfl (TS.fin6 tsb).bq) rfl ?_
              refine ⟨⟨nm, ⟨0, di, [], [], []⟩⟩, _, _, _, _, _, _, _, _, _, _, _, _, ?_, rfl, (Held.fin6 dd4).done, Held.nil _ _ _ _ _ (by unfold maxLen; omega), Held.nil _ _ _ _ _ (by unfold maxLen; omega), Held.nil _ _ _ _ _ (by unfold maxLen; omega), ?_, (TS.fin6 tsb).gr⟩
              · intro _; rw [HE.out]
              · rw [HE.out]; exact (TS.fin6 tsb).k
          ·
            focus
              obtain ⟨b0_5, b1_5, b2_5, B0_5, B1_5, B2_5, k0_5, k1_5, k2_5, z0_5, z1_5, z2_5, lg_5⟩ := tsb.fl
              obtain ⟨p0_5, p1_5, p2_5, p3_5, p4_5, p5_5, y0_5, y1_5, y2_5, y3_5, y4_5, y5_5, lp_5⟩ := blkc6 tsb.bp
              obtain ⟨q0_5, q1_5, q2_5, q3_5, q4_5, q5_5, x0_5, x1_5, x2_5, x3_5, x4_5, x5_5, lq_5⟩ := blkc6 tsb.bq
              have HE : Hid (dTensor b = (⟨nm, ⟨0, di, [], [], []⟩⟩, fl1.or (tenFl fs))) := Lib.hid (by
                rw [dTensor_at HFS.out (dTenL_out (by rw [HDI.out, HCN.out, HCF.out, knownP_int, HKD.out, HKI.out, HC2.out]; simp)), HNM.out, HDI.out])
              go_wp2_with (go_at_call 50; refine Calls.mono (known_any _ _) ?_; rintro e' w' ⟨rfl, hw'⟩; subst w'; rw [HC2.out])
              refine bodyPost_ret (ten_out _ _ w.heap.size _ _ _ _ _ _ rfl (TS.fin6 tsb).bq) rfl ?_
              refine ⟨⟨nm, ⟨0, di, [], [], []⟩⟩, _, _, _, _, _, _, _, _, _, _, _, _, ?_, rfl, (Held.fin6 dd4).done, Held.nil _ _ _ _ _ (by unfold maxLen; omega), Held.nil _ _ _ _ _ (by unfold maxLen; omega), Held.nil _ _ _ _ _ (by unfold maxLen; omega), ?_, (TS.fin6 tsb).gr⟩
              · intro _; rw [HE.out]
              · rw [HE.out]; exact (TS.fin6 tsb).k
          ·
            focus
              have HC0 : Hid ((!decide ((cnt (dInts fs 1).1).2 = 0) || !knownP (dNum fs 2).1.1) = false) := Lib.hid (by rw [HDI.out, HCN.out, HCF.out, knownP_int, HKD.out, HKI.out, HC2.out]; rfl)
              have hk179 : kd = 1 ∨ kd = 7 ∨ kd = 9 := by
                have h9 := HC2.out
                rw [← HKI.out, ← knownP_int] at h9
                unfold knownP at h9
                simpa [or_assoc] using h9
              obtain ⟨nr, hnr⟩ : ∃ n, ra.length = n := ⟨_, rfl⟩
              have HNR := Lib.hid hnr
              rw [hnr] at hrl
              rw [hnr]
              clear hnr
              by_cases hr0 : 0 < nr
              ·
                focus
                  obtain ⟨b0_5, b1_5, b2_5, B0_5, B1_5, B2_5, k0_5, k1_5, k2_5, z0_5, z1_5, z2_5, lg_5⟩ := tsb.fl
                  obtain ⟨p0_5, p1_5, p2_5, p3_5, p4_5, p5_5, y0_5, y1_5, y2_5, y3_5, y4_5, y5_5, lp_5⟩ := blkc6 tsb.bp
                  obtain ⟨q0_5, q1_5, q2_5, q3_5, q4_5, q5_5, x0_5, x1_5, x2_5, x3_5, x4_5, x5_5, lq_5⟩ := blkc6 tsb.bq
                  have tp6 := tsb.setP 1 (.int .i64 ki)
                  have dfs' := dfs.dP 1 (.int .i64 ki)
                  clear dfs
                  have dfs := dfs'
                  clear dfs'
                  have dd4' := dd4.dP 1 (.int .i64 ki)
                  clear dd4
                  have dd4 := dd4'
                  clear dd4'
                  have dF' := dF.dP 1 (.int .i64 ki)
                  clear dF
                  have dF := dF'
                  clear dF'
                  have dS' := dS.dP 1 (.int .i64 ki)
                  clear dS
                  have dS := dS'
                  clear dS'
                  have dL' := dL.dP 1 (.int .i64 ki)
                  clear dL
                  have dL := dL'
                  clear dL'
                  have dR' := dR.dP 1 (.int .i64 ki)
                  clear dR
                  have dR := dR'
                  clear dR'
                  obtain ⟨m, rfl⟩ : ∃ m, nr = m + 1 := ⟨nr - 1, by omega⟩
                  have hmr : m < ra.length := by rw [HNR.out]; omega
                  obtain ⟨AR', cR', eR, -, -, -, hR⟩ := Held.ones dR
                  obtain ⟨br, offr, ur, hAr, hSr, hcr, hdr⟩ := hR m hmr
                  injection eR with e1 e2 e3
                  subst e1
                  subst hAr
                  have hrm := HRD.out m hmr
                  have HLAST : Hid ((dList dRaw fs 9 fs.length).1.getLast?.getD [] = ra[m]) := Lib.hid (by
                    rw [HRA.out, List.getLast?_eq_getElem?, HNR.out, Nat.add_sub_cancel, List.getElem?_eq_getElem hmr]
                    rfl)
                  have HDR := Lib.hid hdr
                  clear dR hR e2 e3
                  generalize ra[m] = rl at *
                  clear dF dS dL
                  generalize lf.length = nf at *
                  generalize ls.length = ns at *
                  generalize ll.length = nl at *
                  have hsum : (0 < nf + ns + nl) ∨ (nf = 0 ∧ ns = 0 ∧ nl = 0) := by omega
                  have HRAW : Hid (dTensor b = if 0 < nf + ns + nl then (⟨nm, ⟨kd, di, [], [], []⟩⟩, fl1.or ((tenFl fs).or (flb true))) else (⟨nm, (rawP kd di cN rl).1⟩, fl1.or ((tenFl fs).or (flb (!(rawP kd di cN rl).2))))) := Lib.hid (by
                    rw [dTensor_at HFS.out (dTenL_raw HC0.out (by rw [HRA.out]; cases ra with | nil => simp at hmr | cons a l => rfl)), HSUM.out, HLAST.out, HKD.out, HDI.out, HCN.out, HNM.out]
                    simp only [Int.toNat_natCast]
                    split <;> rfl)
                  obtain ⟨b0_7, b1_7, b2_7, B0_7, B1_7, B2_7, k0_7, k1_7, k2_7, z0_7, z1_7, z2_7, lg_7⟩ := tp6.fl
                  obtain ⟨p0_7, p1_7, p2_7, p3_7, p4_7, p5_7, y0_7, y1_7, y2_7, y3_7, y4_7, y5_7, lp_7⟩ := blkc6 tp6.bp
                  obtain ⟨q0_7, q1_7, q2_7, q3_7, q4_7, q5_7, x0_7, x1_7, x2_7, x3_7, x4_7, x5_7, lq_7⟩ := blkc6 tp6.bq
                  rcases hsum with hs | ⟨rfl, rfl, rfl⟩
                  ·
                    focus
                      have HE : Hid (dTensor b = (⟨nm, ⟨kd, di, [], [], []⟩⟩, fl1.or ((tenFl fs).or (flb true)))) := Lib.hid (by rw [HRAW.out, if_pos hs])
                      have hsi : (0 : Int) < (nf : Int) + (ns : Int) + (nl : Int) := by omega
                      have tse := tp6.or0 true (b := true) (by rw [Bool.or_true])
                      cases b0_7
                      all_goals
                        go_wp2_with (go_at_call 50; refine Calls.mono (known_any _ _) ?_; rintro e' w' ⟨rfl, hw'⟩; subst w'; rw [HC2.out])
                        refine bodyPost_ret (ten_out _ _ w.heap.size _ _ _ _ _ _ rfl (TS.fin6 tse).bq) rfl ?_
                        refine ⟨⟨nm, ⟨kd, di, [], [], []⟩⟩, _, _, _, _, _, _, _, _, _, _, _, _, ?_, ret_ten HKI.out.symm, (Held.fin6 (dd4.dG hlt 0 (.bool true))).done, Held.nil _ _ _ _ _ (by unfold maxLen; omega), Held.nil _ _ _ _ _ (by unfold maxLen; omega), Held.nil _ _ _ _ _ (by unfold maxLen; omega), ?_, (TS.fin6 tse).gr⟩
                        · intro _; rw [HE.out]
                        · rw [HE.out]; exact ((TS.fin6 tse).k).to (by ac_rfl)
                  ·
                    focus
                      cases b0_7
                      case true =>
                        have HBD : Hid ((f.or (fl1.or (tenFl fs))).bad = true) := B0_7
                        have HE : Hid (dTensor b = (⟨nm, (rawP kd di cN rl).1⟩, fl1.or ((tenFl fs).or (flb (!(rawP kd di cN rl).2))))) := Lib.hid (by rw [HRAW.out, if_neg (by decide)])
                        have tse := tp6.or0 (!(rawP kd di cN rl).2) (b := true) (by rw [B0_7.out, Bool.true_or])
                        go_wp2_with (go_at_call 50; refine Calls.mono (known_any _ _) ?_; rintro e' w' ⟨rfl, hw'⟩; subst w'; rw [HC2.out])
                        refine bodyPost_ret (ten_out _ _ w.heap.size _ _ _ _ _ _ rfl (TS.fin6 tse).bq) rfl ?_
                        refine ⟨⟨nm, ⟨kd, di, [], [], []⟩⟩, _, _, _, _, _, _, _, _, _, _, _, _, ?_, ret_ten HKI.out.symm, (Held.fin6 (dd4.dG hlt 0 (.bool true))).done, Held.nil _ _ _ _ _ (by unfold maxLen; omega), Held.nil _ _ _ _ _ (by unfold maxLen; omega), Held.nil _ _ _ _ _ (by unfold maxLen; omega), ?_, (TS.fin6 tse).gr⟩
                        · intro h; rw [HE.out] at h; exact bad_pre h HBD.out
                        · rw [HE.out]; exact ((TS.fin6 tse).k).to (by ac_rfl)
                      case false =>
                        rcases hk179 with rfl | rfl | rfl
                        ·
                          obtain rfl : ki = 1 := HKI.out.symm
                          have HE : Hid (dTensor b = (⟨nm, (rawP 1 di cN rl).1⟩, fl1.or ((tenFl fs).or (flb (!(rawP 1 di cN rl).2))))) := Lib.hid (by rw [HRAW.out, if_neg (by decide)])
                          have HC := Lib.hid (rawF_any (dims := di) (n := cN) tp6.bp (by omega) hdr (fun h => h.2.1 rfl) hrm)
                          obtain ⟨⟨r1, rb⟩, hr⟩ : ∃ r, rawP 1 di cN rl = r := ⟨_, rfl⟩
                          have HRR := Lib.hid hr
                          have HSH := Lib.hid (rawP_shape 1 di cN rl)
                          rw [hr] at HC HSH
                          clear hr
                          go_wp2_with (go_at_call 50; refine Calls.mono (known_any _ _) ?_; rintro e' w' ⟨rfl, hw'⟩; subst w'; rw [HC2.out])
                          refine HC.out.mono ?_
                          rintro e w' ⟨t9, A1', n1', c1', A2', n2', c2', A3', n3', c3', rfl, ht, hb9, e1, e2, e3, g9⟩
                          have tsr := tp6.raw hb9 g9
                          have ddr := dd4.draw g9
                          have e1d := e1.dt tp6
                          have e2d := e2.dt tp6
                          have e3d := e3.dt tp6
                          obtain ⟨b0r, b1r, b2r, B0r, B1r, B2r, k0r, k1r, k2r, z0r, z1r, z2r, lgr⟩ := tsr.fl
                          obtain ⟨p0r, p1r, p2r, p3r, p4r, p5r, y0r, y1r, y2r, y3r, y4r, y5r, lpr⟩ := blkc6 tsr.bp
                          obtain ⟨q0r, q1r, q2r, q3r, q4r, q5r, x0r, x1r, x2r, x3r, x4r, x5r, lqr⟩ := blkc6 tsr.bq
                          have HT9 := Lib.hid ht
                          clear ht
                          dsimp only at HT9
                          cases rb
                          case false =>
                            have tse := tsr.or0 true (b := true) (by rw [Bool.or_true])
                            go_wp2
                            refine bodyPost_ret (ten_out _ _ w.heap.size _ _ _ _ _ _ rfl (TS.fin6 tse).bq) rfl ?_
                            refine ⟨⟨nm, ⟨1, di, t9.f, t9.i, t9.b⟩⟩, _, _, _, _, _, _, _, _, _, _, _, _, ?_, ret_ten rfl, (Held.fin6 (ddr.dG hlt 0 (.bool true))).done, (Held.fin6 (e1d.dG hlt 0 (.bool true))).done, (Held.fin6 (e2d.dG hlt 0 (.bool true))).done, (Held.fin6 (e3d.dG hlt 0 (.bool true))).done, ?_, (TS.fin6 tse).gr⟩
                            · intro h; rw [HE.out, HRR.out] at h; exact bad_flb h
                            · rw [HE.out, HRR.out]; exact ((TS.fin6 tse).k).to (by show _ = f.or (fl1.or ((tenFl fs).or (flb true))); ac_rfl)
                          case true =>
                            have tse := tsr.or0 false (b := false) (by rw [B0_7.out]; rfl)
                            obtain ⟨ty1, dims1, f1, i1, o1⟩ := r1
                            go_wp2
                            refine bodyPost_ret (ten_out _ _ w.heap.size _ _ _ _ _ _ rfl (TS.fin6 tse).bq) rfl ?_
                            refine ⟨⟨nm, ⟨1, di, t9.f, t9.i, t9.b⟩⟩, _, _, _, _, _, _, _, _, _, _, _, _, ?_, ret_ten rfl, (Held.fin6 (ddr.dG hlt 0 (.bool false))).done, (Held.fin6 (e1d.dG hlt 0 (.bool false))).done, (Held.fin6 (e2d.dG hlt 0 (.bool false))).done, (Held.fin6 (e3d.dG hlt 0 (.bool false))).done, ?_, (TS.fin6 tse).gr⟩
                            · intro _
                              rw [HE.out, HRR.out, HT9.out (by simp)]
                              have h1 : ty1 = 1 := HSH.out.1
                              have h2 : dims1 = di := HSH.out.2
                              rw [h1, h2]
                            · rw [HE.out, HRR.out]; exact ((TS.fin6 tse).k).to (by show _ = f.or (fl1.or ((tenFl fs).or (flb false))); ac_rfl)
                        ·
                          obtain rfl : ki = 7 := HKI.out.symm
                          have HE : Hid (dTensor b = (⟨nm, (rawP 7 di cN rl).1⟩, fl1.or ((tenFl fs).or (flb (!(rawP 7 di cN rl).2))))) := Lib.hid (by rw [HRAW.out, if_neg (by decide)])
                          have HC := Lib.hid (rawI_any (dims := di) (n := cN) tp6.bp (by omega) hdr (fun h => h.2.1 rfl) hrm)
                          obtain ⟨⟨r1, rb⟩, hr⟩ : ∃ r, rawP 7 di cN rl = r := ⟨_, rfl⟩
                          have HRR := Lib.hid hr
                          have HSH := Lib.hid (rawP_shape 7 di cN rl)
                          rw [hr] at HC HSH
                          clear hr
                          go_wp2_with (go_at_call 50; refine Calls.mono (known_any _ _) ?_; rintro e' w' ⟨rfl, hw'⟩; subst w'; rw [HC2.out])
                          refine HC.out.mono ?_
                          rintro e w' ⟨t9, A1', n1', c1', A2', n2', c2', A3', n3', c3', rfl, ht, hb9, e1, e2, e3, g9⟩
                          have tsr := tp6.raw hb9 g9
                          have ddr := dd4.draw g9
                          have e1d := e1.dt tp6
                          have e2d := e2.dt tp6
                          have e3d := e3.dt tp6
                          obtain ⟨b0r, b1r, b2r, B0r, B1r, B2r, k0r, k1r, k2r, z0r, z1r, z2r, lgr⟩ := tsr.fl
                          obtain ⟨p0r, p1r, p2r, p3r, p4r, p5r, y0r, y1r, y2r, y3r, y4r, y5r, lpr⟩ := blkc6 tsr.bp
                          obtain ⟨q0r, q1r, q2r, q3r, q4r, q5r, x0r, x1r, x2r, x3r, x4r, x5r, lqr⟩ := blkc6 tsr.bq
                          have HT9 := Lib.hid ht
                          clear ht
                          dsimp only at HT9
                          cases rb
                          case false =>
                            have tse := tsr.or0 true (b := true) (by rw [Bool.or_true])
                            go_wp2
                            refine bodyPost_ret (ten_out _ _ w.heap.size _ _ _ _ _ _ rfl (TS.fin6 tse).bq) rfl ?_
                            refine ⟨⟨nm, ⟨7, di, t9.f, t9.i, t9.b⟩⟩, _, _, _, _, _, _, _, _, _, _, _, _, ?_, ret_ten rfl, (Held.fin6 (ddr.dG hlt 0 (.bool true))).done, (Held.fin6 (e1d.dG hlt 0 (.bool true))).done, (Held.fin6 (e2d.dG hlt 0 (.bool true))).done, (Held.fin6 (e3d.dG hlt 0 (.bool true))).done, ?_, (TS.fin6 tse).gr⟩
                            · intro h; rw [HE.out, HRR.out] at h; exact bad_flb h
                            · rw [HE.out, HRR.out]; exact ((TS.fin6 tse).k).to (by show _ = f.or (fl1.or ((tenFl fs).or (flb true))); ac_rfl)
                          case true =>
                            have tse := tsr.or0 false (b := false) (by rw [B0_7.out]; rfl)
                            obtain ⟨ty1, dims1, f1, i1, o1⟩ := r1
                            go_wp2
                            refine bodyPost_ret (ten_out _ _ w.heap.size _ _ _ _ _ _ rfl (TS.fin6 tse).bq) rfl ?_
                            refine ⟨⟨nm, ⟨7, di, t9.f, t9.i, t9.b⟩⟩, _, _, _, _, _, _, _, _, _, _, _, _, ?_, ret_ten rfl, (Held.fin6 (ddr.dG hlt 0 (.bool false))).done, (Held.fin6 (e1d.dG hlt 0 (.bool false))).done, (Held.fin6 (e2d.dG hlt 0 (.bool false))).done, (Held.fin6 (e3d.dG hlt 0 (.bool false))).done, ?_, (TS.fin6 tse).gr⟩
                            · intro _
                              rw [HE.out, HRR.out, HT9.out (by simp)]
                              have h1 : ty1 = 7 := HSH.out.1
                              have h2 : dims1 = di := HSH.out.2
                              rw [h1, h2]
                            · rw [HE.out, HRR.out]; exact ((TS.fin6 tse).k).to (by show _ = f.or (fl1.or ((tenFl fs).or (flb false))); ac_rfl)
                        ·
                          obtain rfl : ki = 9 := HKI.out.symm
                          have HE : Hid (dTensor b = (⟨nm, (rawP 9 di cN rl).1⟩, fl1.or ((tenFl fs).or (flb (!(rawP 9 di cN rl).2))))) := Lib.hid (by rw [HRAW.out, if_neg (by decide)])
                          have HC := Lib.hid (rawB_any (dims := di) (n := cN) tp6.bp (by omega) hdr (fun h => h.2.1 rfl) hrm)
                          obtain ⟨⟨r1, rb⟩, hr⟩ : ∃ r, rawP 9 di cN rl = r := ⟨_, rfl⟩
                          have HRR := Lib.hid hr
                          have HSH := Lib.hid (rawP_shape 9 di cN rl)
                          rw [hr] at HC HSH
                          clear hr
                          go_wp2_with (go_at_call 50; refine Calls.mono (known_any _ _) ?_; rintro e' w' ⟨rfl, hw'⟩; subst w'; rw [HC2.out])
                          refine HC.out.mono ?_
                          rintro e w' ⟨t9, A1', n1', c1', A2', n2', c2', A3', n3', c3', rfl, ht, hb9, e1, e2, e3, g9⟩
                          have tsr := tp6.raw hb9 g9
                          have ddr := dd4.draw g9
                          have e1d := e1.dt tp6
                          have e2d := e2.dt tp6
                          have e3d := e3.dt tp6
                          obtain ⟨b0r, b1r, b2r, B0r, B1r, B2r, k0r, k1r, k2r, z0r, z1r, z2r, lgr⟩ := tsr.fl
                          obtain ⟨p0r, p1r, p2r, p3r, p4r, p5r, y0r, y1r, y2r, y3r, y4r, y5r, lpr⟩ := blkc6 tsr.bp
                          obtain ⟨q0r, q1r, q2r, q3r, q4r, q5r, x0r, x1r, x2r, x3r, x4r, x5r, lqr⟩ := blkc6 tsr.bq
                          have HT9 := Lib.hid ht
                          clear ht
                          dsimp only at HT9
                          cases rb
                          case false =>
                            have tse := tsr.or0 true (b := true) (by rw [Bool.or_true])
                            go_wp2
                            refine bodyPost_ret (ten_out _ _ w.heap.size _ _ _ _ _ _ rfl (TS.fin6 tse).bq) rfl ?_
                            refine ⟨⟨nm, ⟨9, di, t9.f, t9.i, t9.b⟩⟩, _, _, _, _, _, _, _, _, _, _, _, _, ?_, ret_ten rfl, (Held.fin6 (ddr.dG hlt 0 (.bool true))).done, (Held.fin6 (e1d.dG hlt 0 (.bool true))).done, (Held.fin6 (e2d.dG hlt 0 (.bool true))).done, (Held.fin6 (e3d.dG hlt 0 (.bool true))).done, ?_, (TS.fin6 tse).gr⟩
                            · intro h; rw [HE.out, HRR.out] at h; exact bad_flb h
                            · rw [HE.out, HRR.out]; exact ((TS.fin6 tse).k).to (by show _ = f.or (fl1.or ((tenFl fs).or (flb true))); ac_rfl)
                          case true =>
                            have tse := tsr.or0 false (b := false) (by rw [B0_7.out]; rfl)
                            obtain ⟨ty1, dims1, f1, i1, o1⟩ := r1
                            go_wp2
                            refine bodyPost_ret (ten_out _ _ w.heap.size _ _ _ _ _ _ rfl (TS.fin6 tse).bq) rfl ?_
                            refine ⟨⟨nm, ⟨9, di, t9.f, t9.i, t9.b⟩⟩, _, _, _, _, _, _, _, _, _, _, _, _, ?_, ret_ten rfl, (Held.fin6 (ddr.dG hlt 0 (.bool false))).done, (Held.fin6 (e1d.dG hlt 0 (.bool false))).done, (Held.fin6 (e2d.dG hlt 0 (.bool false))).done, (Held.fin6 (e3d.dG hlt 0 (.bool false))).done, ?_, (TS.fin6 tse).gr⟩
                            · intro _
                              rw [HE.out, HRR.out, HT9.out (by simp)]
                              have h1 : ty1 = 9 := HSH.out.1
                              have h2 : dims1 = di := HSH.out.2
                              rw [h1, h2]
                            · rw [HE.out, HRR.out]; exact ((TS.fin6 tse).k).to (by show _ = f.or (fl1.or ((tenFl fs).or (flb false))); ac_rfl)

              ·
                focus
                  obtain rfl : nr = 0 := by omega
                  have HRN : Hid ((dList dRaw fs 9 fs.length).1.isEmpty = true) := Lib.hid (by rw [HRA.out, List.isEmpty_iff]; exact List.eq_nil_of_length_eq_zero HNR.out)
                  clear dR
                  obtain ⟨p0_5, p1_5, p2_5, p3_5, p4_5, p5_5, y0_5, y1_5, y2_5, y3_5, y4_5, y5_5, lp_5⟩ := blkc6 tsb.bp
                  obtain ⟨q0_5, q1_5, q2_5, q3_5, q4_5, q5_5, x0_5, x1_5, x2_5, x3_5, x4_5, x5_5, lq_5⟩ := blkc6 tsb.bq
                  have tp6 := tsb.setP 1 (.int .i64 ki)
                  have dfs' := dfs.dP 1 (.int .i64 ki)
                  clear dfs
                  have dfs := dfs'
                  clear dfs'
                  have dd4' := dd4.dP 1 (.int .i64 ki)
                  clear dd4
                  have dd4 := dd4'
                  clear dd4'
                  have dF' := dF.dP 1 (.int .i64 ki)
                  clear dF
                  have dF := dF'
                  clear dF'
                  have dS' := dS.dP 1 (.int .i64 ki)
                  clear dS
                  have dS := dS'
                  clear dS'
                  have dL' := dL.dP 1 (.int .i64 ki)
                  clear dL
                  have dL := dL'
                  clear dL'
                  obtain ⟨p0_7, p1_7, p2_7, p3_7, p4_7, p5_7, y0_7, y1_7, y2_7, y3_7, y4_7, y5_7, lp_7⟩ := blkc6 tp6.bp
                  obtain ⟨q0_7, q1_7, q2_7, q3_7, q4_7, q5_7, x0_7, x1_7, x2_7, x3_7, x4_7, x5_7, lq_7⟩ := blkc6 tp6.bq
                  obtain ⟨s1, hs1⟩ : ∃ s, ((lf.length : Int) + (ls.length : Int) + (ll.length : Int) != (cN : Int)) = s := ⟨_, rfl⟩
                  have HS1 := Lib.hid hs1
                  have HOWN := Lib.hid (dTensor_at HFS.out (dTenL_own HC0.out HRN.out))
                  obtain ⟨p0_8, p1_8, p2_8, p3_8, p4_8, p5_8, y0_8, y1_8, y2_8, y3_8, y4_8, y5_8, lp_8⟩ := blkc6 tp6.bp
                  obtain ⟨q0_8, q1_8, q2_8, q3_8, q4_8, q5_8, x0_8, x1_8, x2_8, x3_8, x4_8, x5_8, lq_8⟩ := blkc6 tp6.bq
                  obtain ⟨b0_9, b1_9, b2_9, B0_9, B1_9, B2_9, k0_9, k1_9, k2_9, z0_9, z1_9, z2_9, lg_9⟩ := tp6.fl
                  go_upto_region 19 with (go_at_call 50; refine Calls.mono (known_any _ _) ?_; rintro e' w' ⟨rfl, hw'⟩; subst w'; rw [HC2.out])
                  go_cut [] (fun wx => wx = (W13.setCell ⟨W2.heap.size, 1, none⟩ (.int .i64 ki)).setCell ⟨g, 0, none⟩ (.bool (b0_9 || s1)))
                  case first =>
                    as_aux_lemma =>
                      cases b0_9 <;> cases s1
                      all_goals
                        go_wp2_with (go_at_call 50; refine Calls.mono (known_any _ _) ?_; rintro e' w' ⟨rfl, hw'⟩; subst w'; rw [HC2.out])
                        go_meet
                        case rel => simp
                  case rest =>
                    focus
                      have ts14 := tp6.or0 s1 (b := (b0_9 || s1)) (by rw [B0_9.out])
                      have dfs' := dfs.dG hlt 0 (.bool (b0_9 || s1))
                      clear dfs
                      have dfs := dfs'
                      clear dfs'
                      have dd4' := dd4.dG hlt 0 (.bool (b0_9 || s1))
                      clear dd4
                      have dd4 := dd4'
                      clear dd4'
                      have dF' := dF.dG hlt 0 (.bool (b0_9 || s1))
                      clear dF
                      have dF := dF'
                      clear dF'
                      have dS' := dS.dG hlt 0 (.bool (b0_9 || s1))
                      clear dS
                      have dS := dS'
                      clear dS'
                      have dL' := dL.dG hlt 0 (.bool (b0_9 || s1))
                      clear dL
                      have dL := dL'
                      clear dL'
                      rw [← hcut] at ts14 dfs dd4 dF dS dL
                      clear hcut
                      clear k0_9 k1_9 k2_9 z0_9 z1_9 z2_9 lg_9
                      obtain ⟨W14, hWk⟩ : ∃ W, W = wc := ⟨_, rfl⟩
                      subst hWk
                      rcases hk179 with rfl | rfl | rfl
                      ·
                        focus
                          obtain rfl : ki = 1 := HKI.out.symm
                          obtain ⟨s2, hs2⟩ : ∃ s, ((lf.length : Int) != (cN : Int)) = s := ⟨_, rfl⟩
                          have HS2 := Lib.hid hs2
                          have HE : Hid (dTensor b = (⟨nm, ⟨1, di, lf, [], []⟩⟩, fl1.or ((tenFl fs).or (flb (s1 || s2))))) := Lib.hid (by
                            rw [HOWN.out, HKD.out]
                            simp only [HNM.out, HDI.out, HCN.out, HSUM.out, HLF.out, HLL.out]
                            have e1 : (!decide (((lf.length + ls.length + ll.length : Nat) : Int) = (cN : Int))) = s1 := by rw [← HS1.out, Int.natCast_add, Int.natCast_add]; rfl
                            have e2 : (!decide ((lf.length : Int) = (cN : Int))) = s2 := by rw [← HS2.out]; rfl
                            rw [e1, e2]
                            rfl)
                          obtain ⟨b0_10, b1_10, b2_10, B0_10, B1_10, B2_10, k0_10, k1_10, k2_10, z0_10, z1_10, z2_10, lg_10⟩ := ts14.fl
                          obtain ⟨p0_10, p1_10, p2_10, p3_10, p4_10, p5_10, y0_10, y1_10, y2_10, y3_10, y4_10, y5_10, lp_10⟩ := blkc6 ts14.bp
                          obtain ⟨q0_10, q1_10, q2_10, q3_10, q4_10, q5_10, x0_10, x1_10, x2_10, x3_10, x4_10, x5_10, lq_10⟩ := blkc6 ts14.bq
                          have hw : b0_10 = true ∨ (b0_10 = false ∧ s2 = true) ∨ (b0_10 = false ∧ s2 = false) := by
                            clear hs2
                            cases b0_10 <;> cases s2 <;> simp
                          have ts20 := ts14.setP 3 (.slice AF lf.length cF)
                          have d1z := dd4.dP (q := w.heap.size) 3 (.slice AF lf.length cF)
                          have d2z := dF.dP (q := w.heap.size) 3 (.slice AF lf.length cF)
                          rcases hw with rfl | ⟨rfl, rfl⟩ | ⟨rfl, rfl⟩
                          ·
                            go_wp2
                            have tse := ts20.or0 s2 (b := true) (by rw [B0_10.out]; rfl)
                            refine bodyPost_ret (ten_out _ _ w.heap.size _ _ _ _ _ _ rfl (TS.fin6 tse).bq) rfl ?_
                            refine ⟨⟨nm, ⟨1, di, lf, [], []⟩⟩, _, _, _, _, _, _, _, _, _, _, _, _, ?_, ret_ten rfl, (Held.fin6 (d1z.dG hlt 0 (.bool true))).done, (Held.fin6 (d2z.dG hlt 0 (.bool true))).done, Held.nil _ _ _ _ _ (by unfold maxLen; omega), Held.nil _ _ _ _ _ (by unfold maxLen; omega), ?_, (TS.fin6 tse).gr⟩
                            · intro _; rw [HE.out]
                            · rw [HE.out, ← flb_or]; exact ((TS.fin6 tse).k).to (by ac_rfl)
                          ·
                            go_wp2
                            have tse := ts20.or0 true (b := true) (by rw [B0_10.out]; rfl)
                            refine bodyPost_ret (ten_out _ _ w.heap.size _ _ _ _ _ _ rfl (TS.fin6 tse).bq) rfl ?_
                            refine ⟨⟨nm, ⟨1, di, lf, [], []⟩⟩, _, _, _, _, _, _, _, _, _, _, _, _, ?_, ret_ten rfl, (Held.fin6 (d1z.dG hlt 0 (.bool true))).done, (Held.fin6 (d2z.dG hlt 0 (.bool true))).done, Held.nil _ _ _ _ _ (by unfold maxLen; omega), Held.nil _ _ _ _ _ (by unfold maxLen; omega), ?_, (TS.fin6 tse).gr⟩
                            · intro _; rw [HE.out]
                            · rw [HE.out, ← flb_or]; exact ((TS.fin6 tse).k).to (by ac_rfl)
                          ·
                            go_wp2
                            have tse := ts20.or0 false (b := false) (by rw [B0_10.out]; rfl)
                            refine bodyPost_ret (ten_out _ _ w.heap.size _ _ _ _ _ _ rfl (TS.fin6 tse).bq) rfl ?_
                            refine ⟨⟨nm, ⟨1, di, lf, [], []⟩⟩, _, _, _, _, _, _, _, _, _, _, _, _, ?_, ret_ten rfl, (Held.fin6 (d1z.dG hlt 0 (.bool false))).done, (Held.fin6 (d2z.dG hlt 0 (.bool false))).done, Held.nil _ _ _ _ _ (by unfold maxLen; omega), Held.nil _ _ _ _ _ (by unfold maxLen; omega), ?_, (TS.fin6 tse).gr⟩
                            · intro _; rw [HE.out]
                            · rw [HE.out, ← flb_or]; exact ((TS.fin6 tse).k).to (by ac_rfl)
                      ·
                        focus
                          obtain rfl : ki = 7 := HKI.out.symm
                          obtain ⟨s2, hs2⟩ : ∃ s, ((ll.length : Int) != (cN : Int)) = s := ⟨_, rfl⟩
                          have HS2 := Lib.hid hs2
                          have HE : Hid (dTensor b = (⟨nm, ⟨7, di, [], ll, []⟩⟩, fl1.or ((tenFl fs).or (flb (s1 || s2))))) := Lib.hid (by
                            rw [HOWN.out, HKD.out]
                            simp only [HNM.out, HDI.out, HCN.out, HSUM.out, HLF.out, HLL.out]
                            have e1 : (!decide (((lf.length + ls.length + ll.length : Nat) : Int) = (cN : Int))) = s1 := by rw [← HS1.out, Int.natCast_add, Int.natCast_add]; rfl
                            have e2 : (!decide ((ll.length : Int) = (cN : Int))) = s2 := by rw [← HS2.out]; rfl
                            rw [e1, e2]
                            rfl)
                          obtain ⟨b0_10, b1_10, b2_10, B0_10, B1_10, B2_10, k0_10, k1_10, k2_10, z0_10, z1_10, z2_10, lg_10⟩ := ts14.fl
                          obtain ⟨p0_10, p1_10, p2_10, p3_10, p4_10, p5_10, y0_10, y1_10, y2_10, y3_10, y4_10, y5_10, lp_10⟩ := blkc6 ts14.bp
                          obtain ⟨q0_10, q1_10, q2_10, q3_10, q4_10, q5_10, x0_10, x1_10, x2_10, x3_10, x4_10, x5_10, lq_10⟩ := blkc6 ts14.bq
                          have hw : b0_10 = true ∨ (b0_10 = false ∧ s2 = true) ∨ (b0_10 = false ∧ s2 = false) := by
                            clear hs2
                            cases b0_10 <;> cases s2 <;> simp
                          have ts20 := ts14.setP 4 (.slice AL ll.length cL)
                          have d1z := dd4.dP (q := w.heap.size) 4 (.slice AL ll.length cL)
                          have d2z := dL.dP (q := w.heap.size) 4 (.slice AL ll.length cL)
                          rcases hw with rfl | ⟨rfl, rfl⟩ | ⟨rfl, rfl⟩
                          ·
                            go_wp2
                            have tse := ts20.or0 s2 (b := true) (by rw [B0_10.out]; rfl)
                            refine bodyPost_ret (ten_out _ _ w.heap.size _ _ _ _ _ _ rfl (TS.fin6 tse).bq) rfl ?_
                            refine ⟨⟨nm, ⟨7, di, [], ll, []⟩⟩, _, _, _, _, _, _, _, _, _, _, _, _, ?_, ret_ten rfl, (Held.fin6 (d1z.dG hlt 0 (.bool true))).done, Held.nil _ _ _ _ _ (by unfold maxLen; omega), (Held.fin6 (d2z.dG hlt 0 (.bool true))).done, Held.nil _ _ _ _ _ (by unfold maxLen; omega), ?_, (TS.fin6 tse).gr⟩
                            · intro _; rw [HE.out]
                            · rw [HE.out, ← flb_or]; exact ((TS.fin6 tse).k).to (by ac_rfl)
                          ·
                            go_wp2
                            have tse := ts20.or0 true (b := true) (by rw [B0_10.out]; rfl)
                            refine bodyPost_ret (ten_out _ _ w.heap.size _ _ _ _ _ _ rfl (TS.fin6 tse).bq) rfl ?_
                            refine ⟨⟨nm, ⟨7, di, [], ll, []⟩⟩, _, _, _, _, _, _, _, _, _, _, _, _, ?_, ret_ten rfl, (Held.fin6 (d1z.dG hlt 0 (.bool true))).done, Held.nil _ _ _ _ _ (by unfold maxLen; omega), (Held.fin6 (d2z.dG hlt 0 (.bool true))).done, Held.nil _ _ _ _ _ (by unfold maxLen; omega), ?_, (TS.fin6 tse).gr⟩
                            · intro _; rw [HE.out]
                            · rw [HE.out, ← flb_or]; exact ((TS.fin6 tse).k).to (by ac_rfl)
                          ·
                            go_wp2
                            have tse := ts20.or0 false (b := false) (by rw [B0_10.out]; rfl)
                            refine bodyPost_ret (ten_out _ _ w.heap.size _ _ _ _ _ _ rfl (TS.fin6 tse).bq) rfl ?_
                            refine ⟨⟨nm, ⟨7, di, [], ll, []⟩⟩, _, _, _, _, _, _, _, _, _, _, _, _, ?_, ret_ten rfl, (Held.fin6 (d1z.dG hlt 0 (.bool false))).done, Held.nil _ _ _ _ _ (by unfold maxLen; omega), (Held.fin6 (d2z.dG hlt 0 (.bool false))).done, Held.nil _ _ _ _ _ (by unfold maxLen; omega), ?_, (TS.fin6 tse).gr⟩
                            · intro _; rw [HE.out]
                            · rw [HE.out, ← flb_or]; exact ((TS.fin6 tse).k).to (by ac_rfl)
                      ·
                        focus
                          obtain rfl : ki = 9 := HKI.out.symm
                          obtain ⟨s2, hs2⟩ : ∃ s, ((ls.length : Int) != (cN : Int)) = s := ⟨_, rfl⟩
                          have HS2 := Lib.hid hs2
                          have HE : Hid (dTensor b = (⟨nm, ⟨9, di, [], [], ls.map fun x => decide (x = 1)⟩⟩, fl1.or ((tenFl fs).or (flb (s1 || s2 || ls.any fun x => !decide (x = 0) && !decide (x = 1)))))) := Lib.hid (by
                            rw [HOWN.out, HKD.out]
                            simp only [HNM.out, HDI.out, HCN.out, HSUM.out, HLS.out]
                            have e1 : (!decide (((lf.length + ls.length + ll.length : Nat) : Int) = (cN : Int))) = s1 := by rw [← HS1.out, Int.natCast_add, Int.natCast_add]; rfl
                            have e2 : (!decide ((ls.length : Int) = (cN : Int))) = s2 := by rw [← HS2.out]; rfl
                            rw [e1, e2]
                            rfl)
                          obtain ⟨p0_10, p1_10, p2_10, p3_10, p4_10, p5_10, y0_10, y1_10, y2_10, y3_10, y4_10, y5_10, lp_10⟩ := blkc6 ts14.bp
                          obtain ⟨q0_10, q1_10, q2_10, q3_10, q4_10, q5_10, x0_10, x1_10, x2_10, x3_10, x4_10, x5_10, lq_10⟩ := blkc6 ts14.bq
                          obtain ⟨b0_11, b1_11, b2_11, B0_11, B1_11, B2_11, k0_11, k1_11, k2_11, z0_11, z1_11, z2_11, lg_11⟩ := ts14.fl
                          go_upto_region 21 with fail
                          go_cut [] (fun wx => wx = W14.setCell ⟨g, 0, none⟩ (.bool (b0_11 || s2)))
                          case first =>
                            as_aux_lemma =>
                              cases b0_11 <;> cases s2
                              all_goals
                                go_wp2
                                go_meet
                                case rel => simp
                          case rest =>
                            focus
                              have ts15 := ts14.or0 s2 (b := (b0_11 || s2)) (by rw [B0_11.out])
                              have dfs' := dfs.dG hlt 0 (.bool (b0_11 || s2))
                              clear dfs
                              have dfs := dfs'
                              clear dfs'
                              have dd4' := dd4.dG hlt 0 (.bool (b0_11 || s2))
                              clear dd4
                              have dd4 := dd4'
                              clear dd4'
                              have dF' := dF.dG hlt 0 (.bool (b0_11 || s2))
                              clear dF
                              have dF := dF'
                              clear dF'
                              have dS' := dS.dG hlt 0 (.bool (b0_11 || s2))
                              clear dS
                              have dS := dS'
                              clear dS'
                              have dL' := dL.dG hlt 0 (.bool (b0_11 || s2))
                              clear dL
                              have dL := dL'
                              clear dL'
                              rw [← hcut] at ts15 dfs dd4 dF dS dL
                              clear hcut
                              clear k0_11 k1_11 k2_11 z0_11 z1_11 z2_11 lg_11
                              obtain ⟨W15, hWk⟩ : ∃ W, W = wc := ⟨_, rfl⟩
                              subst hWk
                              clear hs2 hs1
                              obtain ⟨F, hF⟩ : ∃ F, f.or (fl1.or (tenFl fs)) = F := ⟨_, rfl⟩
                              rw [hF] at ts15
                              have HFF := Lib.hid hF
                              clear hF
                              have HW := ts15
                              have hB0 := (ts15).bp.lt
                              have hB1 := (ts15).bq.lt
                              have hB2 := (ts15).gr.size
                              have dz1 := dd4.lt
                              have dz2 := dS.lt
                              clear dF dL dd4 dS dfs
                              obtain ⟨b0_12, b1_12, b2_12, B0_12, B1_12, B2_12, k0_12, k1_12, k2_12, z0_12, z1_12, z2_12, lg_12⟩ := ts15.fl
                              obtain ⟨p0_12, p1_12, p2_12, p3_12, p4_12, p5_12, y0_12, y1_12, y2_12, y3_12, y4_12, y5_12, lp_12⟩ := blkc6 ts15.bp
                              obtain ⟨q0_12, q1_12, q2_12, q3_12, q4_12, q5_12, x0_12, x1_12, x2_12, x3_12, x4_12, x5_12, lq_12⟩ := blkc6 ts15.bq
                              go_wp2
                              go_loopw [187] (fun i wr => BLrel ls w W15 g nm (.slice Ad nd cd) di (.slice AS ls.length cS) (((F.or (flb s1)).or (flb s2))) W2.heap.size i wr) (fun i _ => ls.length - (intOf i).toNat)
                              case atStart => exact ⟨0, none, 0, Nat.zero_le _, rfl, (ts15).to (f' := ((F.or (flb s1)).or (flb s2)).or (flb ((ls.take 0).any fun x => !decide (x = 0) && !decide (x = 1)))) (by simp [Fl.or, flb]), HRow.nil _ _ _ _, dz1, dz2, Nat.le_refl _⟩
                              case round =>
                                obtain ⟨k, A9, c9, hk9, rfl, tsr, hrow, dd, dsm, hz9⟩ := hrel
                                have HROW := Lib.hid hrow
                                have ht9 := tsr
                                obtain ⟨b0r, b1r, b2r, B0r, B1r, B2r, k0r, k1r, k2r, z0r, z1r, z2r, lgr⟩ := tsr.fl
                                obtain ⟨p0r, p1r, p2r, p3r, p4r, p5r, y0r, y1r, y2r, y3r, y4r, y5r, lpr⟩ := blkc6 tsr.bp
                                obtain ⟨q0r, q1r, q2r, q3r, q4r, q5r, x0r, x1r, x2r, x3r, x4r, x5r, lqr⟩ := blkc6 tsr.bq
                                by_cases hlt' : k < ls.length
                                · obtain ⟨b', off', rfl, -, hc⟩ := dsm.int_at hlt'
                                  have HT := Lib.hid (show (ls.take (k + 1)).map (fun x => Dat.leaf (.bool (decide (x = 1)))) = (ls.take k).map (fun x => Dat.leaf (.bool (decide (x = 1)))) ++ [Dat.leaf (.bool (decide (ls[k] = 1)))] by rw [List.take_succ_eq_append_getElem hlt', List.map_append]; rfl)
                                  have HA := Lib.hid (show (ls.take (k + 1)).any (fun x => !decide (x = 0) && !decide (x = 1)) = ((ls.take k).any (fun x => !decide (x = 0) && !decide (x = 1)) || (!decide (ls[k] = 0) && !decide (ls[k] = 1))) by rw [List.take_succ_eq_append_getElem hlt', List.any_append]; simp)
                                  obtain ⟨z0, hz0⟩ : ∃ z, (ls[k].toInt != 0) = z := ⟨_, rfl⟩
                                  obtain ⟨z1, hz1'⟩ : ∃ z, (ls[k].toInt != 1) = z := ⟨_, rfl⟩
                                  obtain ⟨o1, ho1⟩ : ∃ z, (ls[k].toInt == 1) = z := ⟨_, rfl⟩
                                  have HD0 : Hid ((!decide (ls[k] = 0)) = z0) := Lib.hid (by rw [decide_eq_decide.2 (i64_eq _ 0 0 rfl), ← hz0]; rfl)
                                  have HD1 : Hid ((!decide (ls[k] = 1)) = z1) := Lib.hid (by rw [decide_eq_decide.2 (i64_eq _ 1 1 rfl), ← hz1']; rfl)
                                  have HD2 : Hid (decide (ls[k] = 1) = o1) := Lib.hid (by rw [decide_eq_decide.2 (i64_eq _ 1 1 rfl), ← ho1]; rfl)
                                  rw [HD2.out] at HT
                                  rw [HD0.out, HD1.out] at HA
                                  have HDD := Lib.hid dd
                                  have HDS := Lib.hid dsm
                                  have HTS := Lib.hid tsr
                                  have hkk : k ≤ 4194304 := by omega
                                  clear hrow dd dsm tsr HD0 HD1 HD2 ht9
                                  generalize ls[k].toInt = xi at *
                                  have hw : b0r = true ∨ (b0r = false ∧ z0 = false) ∨ (b0r = false ∧ z0 = true ∧ z1 = false) ∨ (b0r = false ∧ z0 = true ∧ z1 = true) := by
                                    clear hz0 hz1'
                                    cases b0r <;> cases z0 <;> cases z1 <;> simp
                                  rcases hw with rfl | ⟨rfl, rfl⟩ | ⟨rfl, rfl, rfl⟩ | ⟨rfl, rfl, rfl⟩

                                  · have tq := HTS.out.or0 (z0 && z1) (b := true) (by rw [B0r.out]; simp)
                                    have HRQ := Lib.hid (HROW.out.grown (grown_set wr g 0 (.bool true)) (fun q hq => by injection hq with hq; omega))
                                    have hddq := (HDD.out.setCell (p := ⟨g, 0, none⟩) (fun h => by have h1 : w.heap.size ≤ g := h.1.1; omega) (.bool true))
                                    have hdsq := (HDS.out.setCell (p := ⟨g, 0, none⟩) (fun h => by have h1 : w.heap.size ≤ g := h.1.1; omega) (.bool true))
                                    have HDDQ := Lib.hid hddq
                                    have HDSQ := Lib.hid hdsq
                                    have hzq : W15.heap.size ≤ (wr.setCell ⟨g, 0, none⟩ (.bool true)).heap.size := by simpa [World.setCell] using hz9
                                    clear hddq hdsq
                                    go_wp2_with (at_builtin
                                                 go_must (refine append_dat 53 4 (.bool false) 1 1 (by kernel_rfl) info_RB rfl (by decide) rfl _ _ rfl HRQ.out rfl rfl (by simp [World.setCell]) [.leaf (.bool o1)] [.bool o1] rfl rfl (by simp [Value.oneCell']) (HL.get (.cons (.leaf _) .nil)) (by omega) (by unfold maxLen; omega) hzq ?_; intro v2 w3 ho2 hg2 ha2; (obtain ⟨A2, c2, rfl, -⟩ := ho2.form); have tr3 := tq.row hg2 (fun k' hk' => by have := (HRQ.out.lt k' hk').1; omega); (obtain ⟨d0, d1, d2, d3, d4, d5, e0', e1', e2', e3', e4', e5', hpl3⟩ := blkc6 tr3.bp)))
                                    go_roundw
                                    case rel => exact ⟨k + 1, A2, c2, by omega, by go_num, (tr3.setP 5 _).to (by rw [HA.out]; simp only [Fl.or_assoc, flb_or, Bool.or_assoc]), by
                                      rw [HT.out]
                                      exact ho2.grown (grown_set w3 W2.heap.size 5 _) (fun q hq => by injection hq with hq; omega),
                                      (HDDQ.out.grown hg2 (fun b hb e => by have := (HRQ.out.lt b e.symm).1; have := hb.2; omega)).setCell (fun h => h.1.2.1 rfl) _,
                                      (HDSQ.out.grown hg2 (fun b hb e => by have := (HRQ.out.lt b e.symm).1; have := hb.2; omega)).setCell (fun h => h.1.2.1 rfl) _, by have := hg2.size; simp [World.setCell] at *; omega⟩
                                    case measure => simp [intOf]; omega
                                  · have tq := HTS.out.or0 (false && z1) (b := false) (by rw [B0r.out]; simp)
                                    have HRQ := Lib.hid (HROW.out.grown (grown_set wr g 0 (.bool false)) (fun q hq => by injection hq with hq; omega))
                                    have hddq := (HDD.out.setCell (p := ⟨g, 0, none⟩) (fun h => by have h1 : w.heap.size ≤ g := h.1.1; omega) (.bool false))
                                    have hdsq := (HDS.out.setCell (p := ⟨g, 0, none⟩) (fun h => by have h1 : w.heap.size ≤ g := h.1.1; omega) (.bool false))
                                    have HDDQ := Lib.hid hddq
                                    have HDSQ := Lib.hid hdsq
                                    have hzq : W15.heap.size ≤ (wr.setCell ⟨g, 0, none⟩ (.bool false)).heap.size := by simpa [World.setCell] using hz9
                                    clear hddq hdsq
                                    go_wp2_with (at_builtin
                                                 go_must (refine append_dat 53 4 (.bool false) 1 1 (by kernel_rfl) info_RB rfl (by decide) rfl _ _ rfl HRQ.out rfl rfl (by simp [World.setCell]) [.leaf (.bool o1)] [.bool o1] rfl rfl (by simp [Value.oneCell']) (HL.get (.cons (.leaf _) .nil)) (by omega) (by unfold maxLen; omega) hzq ?_; intro v2 w3 ho2 hg2 ha2; (obtain ⟨A2, c2, rfl, -⟩ := ho2.form); have tr3 := tq.row hg2 (fun k' hk' => by have := (HRQ.out.lt k' hk').1; omega); (obtain ⟨d0, d1, d2, d3, d4, d5, e0', e1', e2', e3', e4', e5', hpl3⟩ := blkc6 tr3.bp)))
                                    go_roundw
                                    case rel => exact ⟨k + 1, A2, c2, by omega, by go_num, (tr3.setP 5 _).to (by rw [HA.out]; simp only [Fl.or_assoc, flb_or, Bool.or_assoc]), by
                                      rw [HT.out]
                                      exact ho2.grown (grown_set w3 W2.heap.size 5 _) (fun q hq => by injection hq with hq; omega),
                                      (HDDQ.out.grown hg2 (fun b hb e => by have := (HRQ.out.lt b e.symm).1; have := hb.2; omega)).setCell (fun h => h.1.2.1 rfl) _,
                                      (HDSQ.out.grown hg2 (fun b hb e => by have := (HRQ.out.lt b e.symm).1; have := hb.2; omega)).setCell (fun h => h.1.2.1 rfl) _, by have := hg2.size; simp [World.setCell] at *; omega⟩
                                    case measure => simp [intOf]; omega
                                  · have tq := HTS.out.or0 (true && false) (b := false) (by rw [B0r.out]; simp)
                                    have HRQ := Lib.hid (HROW.out.grown (grown_set wr g 0 (.bool false)) (fun q hq => by injection hq with hq; omega))
                                    have hddq := (HDD.out.setCell (p := ⟨g, 0, none⟩) (fun h => by have h1 : w.heap.size ≤ g := h.1.1; omega) (.bool false))
                                    have hdsq := (HDS.out.setCell (p := ⟨g, 0, none⟩) (fun h => by have h1 : w.heap.size ≤ g := h.1.1; omega) (.bool false))
                                    have HDDQ := Lib.hid hddq
                                    have HDSQ := Lib.hid hdsq
                                    have hzq : W15.heap.size ≤ (wr.setCell ⟨g, 0, none⟩ (.bool false)).heap.size := by simpa [World.setCell] using hz9
                                    clear hddq hdsq
                                    go_wp2_with (at_builtin
                                                 go_must (refine append_dat 53 4 (.bool false) 1 1 (by kernel_rfl) info_RB rfl (by decide) rfl _ _ rfl HRQ.out rfl rfl (by simp [World.setCell]) [.leaf (.bool o1)] [.bool o1] rfl rfl (by simp [Value.oneCell']) (HL.get (.cons (.leaf _) .nil)) (by omega) (by unfold maxLen; omega) hzq ?_; intro v2 w3 ho2 hg2 ha2; (obtain ⟨A2, c2, rfl, -⟩ := ho2.form); have tr3 := tq.row hg2 (fun k' hk' => by have := (HRQ.out.lt k' hk').1; omega); (obtain ⟨d0, d1, d2, d3, d4, d5, e0', e1', e2', e3', e4', e5', hpl3⟩ := blkc6 tr3.bp)))
                                    go_roundw
                                    case rel => exact ⟨k + 1, A2, c2, by omega, by go_num, (tr3.setP 5 _).to (by rw [HA.out]; simp only [Fl.or_assoc, flb_or, Bool.or_assoc]), by
                                      rw [HT.out]
                                      exact ho2.grown (grown_set w3 W2.heap.size 5 _) (fun q hq => by injection hq with hq; omega),
                                      (HDDQ.out.grown hg2 (fun b hb e => by have := (HRQ.out.lt b e.symm).1; have := hb.2; omega)).setCell (fun h => h.1.2.1 rfl) _,
                                      (HDSQ.out.grown hg2 (fun b hb e => by have := (HRQ.out.lt b e.symm).1; have := hb.2; omega)).setCell (fun h => h.1.2.1 rfl) _, by have := hg2.size; simp [World.setCell] at *; omega⟩
                                    case measure => simp [intOf]; omega
                                  · have tq := HTS.out.or0 (true && true) (b := true) (by rw [B0r.out]; simp)
                                    have HRQ := Lib.hid (HROW.out.grown (grown_set wr g 0 (.bool true)) (fun q hq => by injection hq with hq; omega))
                                    have hddq := (HDD.out.setCell (p := ⟨g, 0, none⟩) (fun h => by have h1 : w.heap.size ≤ g := h.1.1; omega) (.bool true))
                                    have hdsq := (HDS.out.setCell (p := ⟨g, 0, none⟩) (fun h => by have h1 : w.heap.size ≤ g := h.1.1; omega) (.bool true))
                                    have HDDQ := Lib.hid hddq
                                    have HDSQ := Lib.hid hdsq
                                    have hzq : W15.heap.size ≤ (wr.setCell ⟨g, 0, none⟩ (.bool true)).heap.size := by simpa [World.setCell] using hz9
                                    clear hddq hdsq
                                    go_wp2_with (at_builtin
                                                 go_must (refine append_dat 53 4 (.bool false) 1 1 (by kernel_rfl) info_RB rfl (by decide) rfl _ _ rfl HRQ.out rfl rfl (by simp [World.setCell]) [.leaf (.bool o1)] [.bool o1] rfl rfl (by simp [Value.oneCell']) (HL.get (.cons (.leaf _) .nil)) (by omega) (by unfold maxLen; omega) hzq ?_; intro v2 w3 ho2 hg2 ha2; (obtain ⟨A2, c2, rfl, -⟩ := ho2.form); have tr3 := tq.row hg2 (fun k' hk' => by have := (HRQ.out.lt k' hk').1; omega); (obtain ⟨d0, d1, d2, d3, d4, d5, e0', e1', e2', e3', e4', e5', hpl3⟩ := blkc6 tr3.bp)))
                                    go_roundw
                                    case rel => exact ⟨k + 1, A2, c2, by omega, by go_num, (tr3.setP 5 _).to (by rw [HA.out]; simp only [Fl.or_assoc, flb_or, Bool.or_assoc]), by
                                      rw [HT.out]
                                      exact ho2.grown (grown_set w3 W2.heap.size 5 _) (fun q hq => by injection hq with hq; omega),
                                      (HDDQ.out.grown hg2 (fun b hb e => by have := (HRQ.out.lt b e.symm).1; have := hb.2; omega)).setCell (fun h => h.1.2.1 rfl) _,
                                      (HDSQ.out.grown hg2 (fun b hb e => by have := (HRQ.out.lt b e.symm).1; have := hb.2; omega)).setCell (fun h => h.1.2.1 rfl) _, by have := hg2.size; simp [World.setCell] at *; omega⟩
                                    case measure => simp [intOf]; omega
                                · have hke : k = ls.length := by omega
                                  subst hke
                                  rw [List.take_length] at tsr hrow
                                  have h9 := hrow.held (by omega)
                                  have e9 : datO (ls.map fun x => decide (x = 1)) = .row 1 (ls.map fun x => Dat.leaf (.bool (decide (x = 1)))) := by simp [datO, Function.comp_def]
                                  rw [← e9] at h9
                                  have h10 : Held wr (DT w W2.heap.size w.heap.size) (datO (ls.map fun x => decide (x = 1))) (.slice A9 ls.length c9) := h9.mono fun b hb => ⟨by have := hb.1; omega, by have := hb.1; omega, by have := hb.1; omega⟩
                                  have h11 : Held wr (DT w W2.heap.size w.heap.size) (datI di) (.slice Ad nd cd) := dd.mono fun b hb => hb.1
                                  have H10 := Lib.hid h10
                                  have H11 := Lib.hid h11
                                  clear h9 e9 h10 h11 hrow HROW dd dsm
                                  go_wp2
                                  refine bodyPost_ret (ten_out _ _ w.heap.size _ _ _ _ _ _ rfl (TS.fin6 tsr).bq) rfl ?_
                                  refine ⟨⟨nm, ⟨9, di, [], [], ls.map fun x => decide (x = 1)⟩⟩, _, _, _, _, _, _, _, _, _, _, _, _, ?_, ret_ten rfl, (Held.fin6 H11.out).done, Held.nil _ _ _ _ _ (by unfold maxLen; omega), Held.nil _ _ _ _ _ (by unfold maxLen; omega), (Held.fin6 H10.out).done, ?_, (TS.fin6 tsr).gr⟩
                                  · intro _; rw [HE.out]
                                  · rw [HE.out]; exact ((TS.fin6 tsr).k).to (by rw [← HFF.out, ← flb_or, ← flb_or]; ac_rfl)
end
end Go.Proofs.YtlhpmlknmgocoaaGreat
