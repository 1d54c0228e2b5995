/- The reader's value. -/
import Derived.Test.YtlhpmlknmgocoaaGreatOnL
namespace Go.Proofs.YtlhpmlknmgocoaaGreat
set_option linter.unusedSimpArgs false
set_option linter.unusedVariables false
open Go.RowKit
def fin3 (W : World) (q : Nat) (c0 c1 c2 : Value) : World := ((W.setCell ⟨q, 0, none⟩ c0).setCell ⟨q, 1, none⟩ c1).setCell ⟨q, 2, none⟩ c2
section
variable {w W : World} {g q p : Nat} {T : TypeId} {f : Fl} {cs : Array Value} {d : Dat} {u c0 c1 c2 a0 a1 a2 : Value}
theorem TS.fin3 (h : TS w W g q p T f cs #[a0, a1, a2]) : TS w (fin3 W q c0 c1 c2) g q p T f cs #[c0, c1, c2] := by
  have := ((h.setQ 0 c0).setQ 1 c1).setQ 2 c2
  simpa [Proofs.YtlhpmlknmgocoaaGreat.fin3] using this
theorem Held.fin3 (h : Held W (DT w p q) d u) : Held (fin3 W q c0 c1 c2) (DT w p q) d u := ((h.dQ 0 c0).dQ 1 c1).dQ 2 c2
end
theorem val_out (w : World) (tmps : Array Value) (g : Nat) (c0 c1 c2 : Value) (h4 : tmps.getD 4 undef = .pointer (some ⟨g, 0, none⟩)) (hk : Blk w g 37 #[c0, c1, c2]) :
    (results Tryz.f71 tmps).run Tryz.prog w = .ok (.agg #[c0, c1, c2]) w := by
  obtain ⟨k0, k1, k2, -⟩ := blkc3 hk
  rw [Array.getD_eq_getD_getElem?] at h4
  simp [results, Tryz.results71, go_sem, h4, k0, k1, k2]
def ValR (w : World) (g : Nat) (f : Fl) (r : Va × Fl) (e : Ending) (w' : World) : Prop :=
  ∃ (A : Option Addr) (n c : Nat), e = .returned (.agg #[.string ⟨r.1.name.toArray⟩, .int .i64 r.1.ty.toInt, .slice A n c]) ∧ Held w' (Inb w.heap.size w'.heap.size) (datI r.1.dims) (.slice A n c) ∧ RdB w' g (f.or r.2) ∧ w.grownBy w' (some g)
theorem dMsg_len {fs : List Fld} (hm : Sm fs) (num : Int) : (dMsg fs num).1.1.length ≤ 4194304 := by
  have h5 := jn_len' (sel num fs)
  have h6 := bulk_sel num fs
  have h7 := hm.2.1
  simp only [dMsg]
  omega
section
variable {g : Nat} {f : Fl} {S : Nat → Prop} {v : Value} {w : World}
set_option maxRecDepth 100000 in
set_option maxHeartbeats 6400000 in
theorem value_any {b : List UInt8} (hk : RdB w g f) (hv : Held w S (datB b) v) :
    Calls Tryz.prog 71 #[.pointer (some ⟨g, 0, none⟩), v] w (ValR w g f (dValue b)) := by
  have hlt := hk.lt
  have hsm := dFields_sm b
  obtain ⟨A, c, rfl, -⟩ := hv.dv
  go_enter Tryz.func71, Tryz.ntmps71
  go_wp2_with fail
  refine Calls.mono (fields_any (hk.alloc _) (hv.alloc _)) ?_
  rintro e W1 ⟨u1, rfl, h1, k1, g1⟩
  obtain ⟨⟨fs, fl1⟩, hfs⟩ : ∃ r, dFields b = r := ⟨_, rfl⟩
  rw [hfs] at hsm h1 k1
  obtain ⟨A1, c1, rfl, -⟩ := h1.rf
  have HFS := Lib.hid hfs
  dsimp only at hsm h1 k1
  clear hv hfs
  go_wp2_with fail
  refine Calls.mono (name_any 1 k1 h1 hsm) ?_
  rintro e W2 ⟨rfl, k2, g2⟩
  have hz1 := g1.size
  have hz2 := g2.size
  obtain ⟨nm, hnm⟩ : ∃ nm, (dText fs 1 256).1 = nm := ⟨_, rfl⟩
  rw [hnm, show strV nm = .string ⟨nm.toArray⟩ from rfl]
  have HNM := Lib.hid hnm
  have ts2 := TS.start (cs := #[.string ⟨nm.toArray⟩, .int .i64 0, .slice none 0 0]) hlt rfl (grown_trans g1 g2) k2
  have dfs : Held W2 (DT w W2.heap.size w.heap.size) (datFs fs) (.slice A1 fs.length c1) := (h1.mono (fun b hb => by have := hb.1; have := hb.2; simp at *; exact ⟨by omega, by omega, by omega⟩)).rd (S := DT w W2.heap.size w.heap.size) (fun h => by have := h.1; omega) g2
  have dfs' := dfs.alloc (.cells #[.string ⟨nm.toArray⟩, .int .i64 0, .slice none 0 0] 37)
  clear dfs
  have dfs := dfs'
  have hgp : g ≠ W2.heap.size := by simp at hz1; omega
  have hpg : W2.heap.size ≠ g := by omega
  have hgq : g ≠ w.heap.size := by omega
  have hqg : w.heap.size ≠ g := by omega
  have hpq : W2.heap.size ≠ w.heap.size := by simp at hz1; omega
  have hqp : w.heap.size ≠ W2.heap.size := by omega
  clear dfs' hnm h1 hk k1 k2 g1 g2
  obtain ⟨⟨⟨so, is⟩, flm⟩, hms⟩ : ∃ r, dMsg fs 2 = r := ⟨_, rfl⟩
  have HMS := Lib.hid hms
  go_wp2_with fail
  refine Calls.mono (message_any 2 ts2.k dfs hsm) ?_
  rintro e W3 ⟨u3, rfl, h3, k3, g3⟩
  have ts3 := ts2.call k3 g3
  have dfs' := dfs.dcall ts2 g3
  clear dfs
  have dfs := dfs'
  clear dfs'
  rw [hms] at ts3 h3
  rw [hms]
  dsimp only at ts3 h3
  dsimp only
  have dso := h3.dt ts2
  clear h3
  clear k3 g3
  clear hms
  obtain ⟨As, cs, rfl, -⟩ := Held.leaves dso
  have H0 : Hid (dValue b = ((dValL fs).1, fl1.or (dValL fs).2)) := Lib.hid (by unfold dValue; rw [HFS.out])
  cases is
  case false =>
    obtain ⟨b0_1, b1_1, b2_1, B0_1, B1_1, B2_1, k0_1, k1_1, k2_1, z0_1, z1_1, z2_1, lg_1⟩ := ts3.fl
    obtain ⟨p0_1, p1_1, p2_1, y0_1, y1_1, y2_1, lp_1⟩ := blkc3 ts3.bp
    obtain ⟨q0_1, q1_1, q2_1, x0_1, x1_1, x2_1, lq_1⟩ := blkc3 ts3.bq
    have HE : Hid (dValue b = (⟨nm, 0, []⟩, fl1.or (((dText fs 1 256).2.or flm).or (flb true)))) := Lib.hid (by rw [H0.out]; unfold dValL; rw [HMS.out]; dsimp only; rw [if_pos (by decide), HNM.out])
    have tse := ts3.or0 true (b := true) (by rw [Bool.or_true])
    go_wp2
    refine bodyPost_ret (val_out _ _ w.heap.size _ _ _ rfl (TS.fin3 tse).bq) rfl ?_
    rw [HE.out]
    exact ⟨_, _, _, rfl, Held.nil _ _ _ _ _ (by unfold maxLen; omega), ((TS.fin3 tse).k).to (by ac_rfl), (TS.fin3 tse).gr⟩
  case true =>
    go_wp2_with fail
    refine Calls.mono (fields_any ts3.k dso) ?_
    rintro e W4 ⟨u4, rfl, h4, k4, g4⟩
    have ts4 := ts3.call k4 g4
    have dfs' := dfs.dcall ts3 g4
    clear dfs
    have dfs := dfs'
    clear dfs'
    have dso' := dso.dcall ts3 g4
    clear dso
    have dso := dso'
    clear dso'
    have dss := h4.dt ts3
    clear h4
    clear k4 g4
    have hsm2 := dFields_sm so
    obtain ⟨⟨ss, fls⟩, hss⟩ : ∃ r, dFields so = r := ⟨_, rfl⟩
    rw [hss] at dss hsm2 ts4
    dsimp only at dss hsm2 ts4
    obtain ⟨A5, c5, rfl, -⟩ := dss.rf
    have HSS := Lib.hid hss
    clear hss dso
    obtain ⟨⟨⟨te, is2⟩, fle⟩, hme⟩ : ∃ r, dMsg ss 1 = r := ⟨_, rfl⟩
    have HME := Lib.hid hme
    go_wp2_with fail
    refine Calls.mono (message_any 1 ts4.k dss hsm2) ?_
    rintro e W5 ⟨u5, rfl, h5, k5, g5⟩
    have ts5 := ts4.call k5 g5
    have dfs' := dfs.dcall ts4 g5
    clear dfs
    have dfs := dfs'
    clear dfs'
    have dss' := dss.dcall ts4 g5
    clear dss
    have dss := dss'
    clear dss'
    rw [hme] at ts5 h5
    rw [hme]
    dsimp only at ts5 h5
    dsimp only
    have dte := h5.dt ts4
    clear h5
    clear k5 g5
    clear hme dss
    obtain ⟨At, ct, rfl, -⟩ := Held.leaves dte
    cases is2
    case false =>
      obtain ⟨b0_1, b1_1, b2_1, B0_1, B1_1, B2_1, k0_1, k1_1, k2_1, z0_1, z1_1, z2_1, lg_1⟩ := ts5.fl
      obtain ⟨p0_1, p1_1, p2_1, y0_1, y1_1, y2_1, lp_1⟩ := blkc3 ts5.bp
      obtain ⟨q0_1, q1_1, q2_1, x0_1, x1_1, x2_1, lq_1⟩ := blkc3 ts5.bq
      have HE : Hid (dValue b = (⟨nm, 0, []⟩, fl1.or ((((dText fs 1 256).2.or flm).or (fls.or fle)).or ⟨false, true, false⟩))) := Lib.hid (by rw [H0.out]; unfold dValL; rw [HMS.out]; dsimp only; rw [if_neg (by decide), HSS.out]; dsimp only; rw [HME.out]; dsimp only; rw [if_pos (by decide), HNM.out])
      have tse := ts5.or1 true (b := true) (by rw [Bool.or_true])
      go_wp2
      refine bodyPost_ret (val_out _ _ w.heap.size _ _ _ rfl (TS.fin3 tse).bq) rfl ?_
      rw [HE.out]
      exact ⟨_, _, _, rfl, Held.nil _ _ _ _ _ (by unfold maxLen; omega), ((TS.fin3 tse).k).to (by ac_rfl), (TS.fin3 tse).gr⟩
    case true =>
      go_wp2_with fail
      refine Calls.mono (fields_any ts5.k dte) ?_
      rintro e W6 ⟨u6, rfl, h6, k6, g6⟩
      have ts6 := ts5.call k6 g6
      have dfs' := dfs.dcall ts5 g6
      clear dfs
      have dfs := dfs'
      clear dfs'
      have dte' := dte.dcall ts5 g6
      clear dte
      have dte := dte'
      clear dte'
      have dff := h6.dt ts5
      clear h6
      clear k6 g6
      have hsm3 := dFields_sm te
      obtain ⟨⟨ff, flf⟩, hff⟩ : ∃ r, dFields te = r := ⟨_, rfl⟩
      rw [hff] at dff hsm3 ts6
      dsimp only at dff hsm3 ts6
      obtain ⟨A7, c7, rfl, -⟩ := dff.rf
      have HFF := Lib.hid hff
      clear hff dte
      obtain ⟨⟨⟨kd, kb⟩, flk⟩, hkd⟩ : ∃ r, dNum ff 1 = r := ⟨_, rfl⟩
      have HKD := Lib.hid hkd
      obtain ⟨ki, hki⟩ : ∃ k, kd.toInt = k := ⟨_, rfl⟩
      have HKI := Lib.hid hki
      go_wp2_with fail
      refine Calls.mono (number_any 1 ts6.k dff hsm3) ?_
      rintro e W7 ⟨rfl, k7, g7⟩
      have ts7 := ts6.call k7 g7
      have dfs' := dfs.dcall ts6 g7
      clear dfs
      have dfs := dfs'
      clear dfs'
      have dff' := dff.dcall ts6 g7
      clear dff
      have dff := dff'
      clear dff'
      rw [hkd] at ts7
      rw [hkd]
      dsimp only at ts7
      dsimp only
      rw [hki]
      clear hkd hki
      clear k7 g7
      obtain ⟨b0_1, b1_1, b2_1, B0_1, B1_1, B2_1, k0_1, k1_1, k2_1, z0_1, z1_1, z2_1, lg_1⟩ := ts7.fl
      obtain ⟨p0_1, p1_1, p2_1, y0_1, y1_1, y2_1, lp_1⟩ := blkc3 ts7.bp
      have tp2 := ts7.setP 1 (.int .i64 ki)
      have dfs' := dfs.dP 1 (.int .i64 ki)
      clear dfs
      have dfs := dfs'
      clear dfs'
      have dff' := dff.dP 1 (.int .i64 ki)
      clear dff
      have dff := dff'
      clear dff'
      obtain ⟨⟨⟨sh, is3⟩, flh⟩, hsh⟩ : ∃ r, dMsg ff 2 = r := ⟨_, rfl⟩
      have HSH := Lib.hid hsh
      go_wp2_with fail
      refine Calls.mono (message_any 2 tp2.k dff hsm3) ?_
      rintro e W8 ⟨u8, rfl, h8, k8, g8⟩
      have ts8 := tp2.call k8 g8
      have dfs' := dfs.dcall tp2 g8
      clear dfs
      have dfs := dfs'
      clear dfs'
      have dff' := dff.dcall tp2 g8
      clear dff
      have dff := dff'
      clear dff'
      rw [hsh] at ts8 h8
      rw [hsh]
      dsimp only at ts8 h8
      dsimp only
      have dsh := h8.dt tp2
      clear h8
      clear k8 g8
      clear k0_1 k1_1 k2_1 z0_1 z1_1 z2_1 lg_1 p0_1 p1_1 p2_1 y0_1 y1_1 y2_1 lp_1
      clear hsh dff
      obtain ⟨Ah, ch, rfl, -⟩ := Held.leaves dsh
      obtain ⟨p0_3, p1_3, p2_3, y0_3, y1_3, y2_3, lp_3⟩ := blkc3 ts8.bp
      obtain ⟨b0_4, b1_4, b2_4, B0_4, B1_4, B2_4, k0_4, k1_4, k2_4, z0_4, z1_4, z2_4, lg_4⟩ := ts8.fl
      obtain ⟨c2, hc2⟩ : ∃ c, knownI ki = c := ⟨_, rfl⟩
      have HC2 := Lib.hid hc2
      clear hc2
      go_upto_region 15 with fail
      go_cut [] (fun wx => wx = W8.setCell ⟨g, 1, none⟩ (.bool (b1_4 || (!c2 || !is3))))
      case first =>
        as_aux_lemma =>
          have hw : b1_4 = true ∨ (b1_4 = false ∧ c2 = false) ∨ (b1_4 = false ∧ c2 = true ∧ is3 = true) ∨ (b1_4 = false ∧ c2 = true ∧ is3 = false) := by
            cases b1_4 <;> cases c2 <;> cases is3 <;> simp
          rcases hw with rfl | ⟨rfl, rfl⟩ | ⟨rfl, rfl, rfl⟩ | ⟨rfl, rfl, rfl⟩
          all_goals
            go_wp2_with (go_at_call 50; refine Calls.mono (known_any _ _) ?_; rintro e' w' ⟨rfl, hw'⟩; subst w'; rw [HC2.out])
            go_meet
            case rel => simp
      case rest =>
        focus
          have ts9 := ts8.or1 (!c2 || !is3) (b := (b1_4 || (!c2 || !is3))) (by rw [B1_4.out])
          have dfs' := dfs.dG hlt 1 (.bool (b1_4 || (!c2 || !is3)))
          clear dfs
          have dfs := dfs'
          clear dfs'
          have dsh' := dsh.dG hlt 1 (.bool (b1_4 || (!c2 || !is3)))
          clear dsh
          have dsh := dsh'
          clear dsh'
          rw [← hcut] at ts9 dfs dsh
          clear hcut
          clear k0_4 k1_4 k2_4 z0_4 z1_4 z2_4 lg_4
          obtain ⟨W9, hWk⟩ : ∃ W, W = wc := ⟨_, rfl⟩
          subst hWk
          have H1 : Hid (dValue b = (⟨nm, (dTyL ff).1.1, (dTyL ff).1.2⟩, fl1.or ((((dText fs 1 256).2.or flm).or (fls.or fle)).or (flf.or (dTyL ff).2)))) := Lib.hid (by rw [H0.out]; unfold dValL; rw [HMS.out]; dsimp only; rw [if_neg (by decide), HSS.out]; dsimp only; rw [HME.out]; dsimp only; rw [if_neg (by decide), HFF.out]; dsimp only; rw [HNM.out])
          have HKP : Hid (knownP kd = c2) := Lib.hid (by rw [knownP_int, HKI.out, HC2.out])
          cases is3
          case false =>
            obtain ⟨b0_5, b1_5, b2_5, B0_5, B1_5, B2_5, k0_5, k1_5, k2_5, z0_5, z1_5, z2_5, lg_5⟩ := ts9.fl
            obtain ⟨p0_5, p1_5, p2_5, y0_5, y1_5, y2_5, lp_5⟩ := blkc3 ts9.bp
            obtain ⟨q0_5, q1_5, q2_5, x0_5, x1_5, x2_5, lq_5⟩ := blkc3 ts9.bq
            have HE : Hid (dValue b = (⟨nm, kd, []⟩, fl1.or ((((dText fs 1 256).2.or flm).or (fls.or fle)).or (flf.or (flk.or (flh.or ⟨false, !c2 || !false, false⟩)))))) := Lib.hid (by rw [H1.out]; unfold dTyL; rw [HKD.out, HSH.out]; dsimp only; rw [if_neg (by decide), HKP.out])
            go_wp2
            refine bodyPost_ret (val_out _ _ w.heap.size _ _ _ rfl (TS.fin3 ts9).bq) rfl ?_
            rw [HE.out]
            exact ⟨_, _, _, by rw [← HKI.out], Held.nil _ _ _ _ _ (by unfold maxLen; omega), ((TS.fin3 ts9).k).to (by ac_rfl), (TS.fin3 ts9).gr⟩
          case true =>
            go_wp2_with fail
            refine Calls.mono (fields_any ts9.k dsh) ?_
            rintro e W10 ⟨u10, rfl, h10, k10, g10⟩
            have ts10 := ts9.call k10 g10
            have dfs' := dfs.dcall ts9 g10
            clear dfs
            have dfs := dfs'
            clear dfs'
            have dsh' := dsh.dcall ts9 g10
            clear dsh
            have dsh := dsh'
            clear dsh'
            have dgs := h10.dt ts9
            clear h10
            clear k10 g10
            have hsm4 := dFields_sm sh
            obtain ⟨⟨gs, flg⟩, hgs⟩ : ∃ r, dFields sh = r := ⟨_, rfl⟩
            rw [hgs] at dgs hsm4 ts10
            dsimp only at dgs hsm4 ts10
            obtain ⟨A9, c9, rfl, -⟩ := dgs.rf
            have HGS := Lib.hid hgs
            clear hgs dsh
            go_wp2_with fail
            refine Calls.mono (list_I64 1 gs.length ts10.k dgs hsm4) ?_
            rintro e W11 ⟨u11, rfl, h11, k11, g11⟩
            have ts11 := ts10.call k11 g11
            have dfs' := dfs.dcall ts10 g11
            clear dfs
            have dfs := dfs'
            clear dfs'
            have dgs' := dgs.dcall ts10 g11
            clear dgs
            have dgs := dgs'
            clear dgs'
            have hd8 := h11.dt ts10
            clear h11
            clear k11 g11
            have hdl : (dList dDim gs 1 gs.length).1.length ≤ 4194304 := dList_len hsm4
            obtain ⟨⟨di, fld⟩, hdi⟩ : ∃ r, dList dDim gs 1 gs.length = r := ⟨_, rfl⟩
            rw [hdi, row_ones] at hd8
            rw [hdi] at hdl ts11
            dsimp only at hd8 hdl ts11
            have HDI := Lib.hid hdi
            clear hdi
            have dd8 : Held W11 (DT w W2.heap.size w.heap.size) (datI di) _ := hd8
            go_wp2_with fail
            refine Calls.mono (dims_any ts11.k dd8 hdl) ?_
            rintro e W12 ⟨Ad, nd, cd, rfl, h12, k12, g12⟩
            have ts12 := ts11.call k12 g12
            have dfs' := dfs.dcall ts11 g12
            clear dfs
            have dfs := dfs'
            clear dfs'
            have dgs' := dgs.dcall ts11 g12
            clear dgs
            have dgs := dgs'
            clear dgs'
            have dd := h12.dt ts11
            clear h12 hd8 dd8
            clear k12 g12
            obtain ⟨b0_5, b1_5, b2_5, B0_5, B1_5, B2_5, k0_5, k1_5, k2_5, z0_5, z1_5, z2_5, lg_5⟩ := ts12.fl
            obtain ⟨p0_5, p1_5, p2_5, y0_5, y1_5, y2_5, lp_5⟩ := blkc3 ts12.bp
            obtain ⟨q0_5, q1_5, q2_5, x0_5, x1_5, x2_5, lq_5⟩ := blkc3 ts12.bq
            have tp6 := ts12.setP 2 (.slice Ad nd cd)
            have dfs' := dfs.dP 2 (.slice Ad nd cd)
            clear dfs
            have dfs := dfs'
            clear dfs'
            have dgs' := dgs.dP 2 (.slice Ad nd cd)
            clear dgs
            have dgs := dgs'
            clear dgs'
            have dd' := dd.dP 2 (.slice Ad nd cd)
            clear dd
            have dd := dd'
            clear dd'
            have HE : Hid (dValue b = (⟨nm, kd, di⟩, fl1.or ((((dText fs 1 256).2.or flm).or (fls.or fle)).or (flf.or ((flk.or (flh.or ⟨false, !c2 || !true, false⟩)).or (flg.or (fld.or (dDims di).2))))))) := Lib.hid (by rw [H1.out]; unfold dTyL; rw [HKD.out, HSH.out]; dsimp only; rw [if_pos rfl, HGS.out]; dsimp only; rw [HDI.out, HKP.out])
            go_wp2
            refine bodyPost_ret (val_out _ _ w.heap.size _ _ _ rfl (TS.fin3 tp6).bq) rfl ?_
            rw [HE.out]
            exact ⟨_, _, _, by rw [← HKI.out], (Held.fin3 dd).done, ((TS.fin3 tp6).k).to (by ac_rfl), (TS.fin3 tp6).gr⟩
end
end Go.Proofs.YtlhpmlknmgocoaaGreat
