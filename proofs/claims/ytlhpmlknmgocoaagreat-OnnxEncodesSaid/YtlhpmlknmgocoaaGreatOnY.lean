/- The reader's graph. -/
import Derived.Test.YtlhpmlknmgocoaaGreatOnX
import Derived.Test.YtlhpmlknmgocoaaGreatOnN
namespace Go.Proofs.YtlhpmlknmgocoaaGreat
set_option linter.unusedSimpArgs false
set_option linter.unusedVariables false
open Go.RowKit
theorem gra_out (w : World) (tmps : Array Value) (g : Nat) (c0 c1 c2 c3 c4 c5 : Value) (h4 : tmps.getD 4 undef = .pointer (some ⟨g, 0, none⟩)) (hk : Blk w g 26 #[c0, c1, c2, c3, c4, c5]) :
    (results Tryz.f38 tmps).run Tryz.prog w = .ok (.agg #[c0, c1, c2, c3, c4, c5]) w := by
  obtain ⟨k0, k1, k2, k3, k4, k5, -⟩ := blkc6 hk
  rw [Array.getD_eq_getD_getElem?] at h4
  simp [results, Tryz.results38, go_sem, h4, k0, k1, k2, k3, k4, k5]
/-- a model, as a value -/
def MoV (w : World) (S : Nat → Prop) (x : Mo) (u : Value) : Prop :=
  ∃ (A1 : Option Addr) (n1 c1 : Nat) (A2 : Option Addr) (n2 c2 : Nat) (A3 : Option Addr) (n3 c3 : Nat) (A4 : Option Addr) (n4 c4 : Nat), u = .agg #[.int .i64 x.opset.toInt, .string ⟨x.name.toArray⟩, .slice A1 n1 c1, .slice A2 n2 c2, .slice A3 n3 c3, .slice A4 n4 c4] ∧
    Held w S (.row 5 (x.nodes.flatMap datN)) (.slice A1 n1 c1) ∧ Held w S (.row 6 (x.inits.flatMap datC)) (.slice A2 n2 c2) ∧ Held w S (.row 3 (x.inputs.flatMap datV)) (.slice A3 n3 c3) ∧ Held w S (.row 3 (x.outputs.flatMap datV)) (.slice A4 n4 c4)
def GraR (w : World) (g : Nat) (f : Fl) (r : Mo × Fl) (e : Ending) (w' : World) : Prop :=
  ∃ (x : Mo) (u : Value), ((f.or r.2).bad = false → x = r.1) ∧ e = .returned u ∧ MoV w' (Inb w.heap.size w'.heap.size) x u ∧ RdB w' g (f.or r.2) ∧ w.grownBy w' (some g)
section
variable {g : Nat} {f : Fl} {S : Nat → Prop} {v : Value} {w : World}
set_option maxRecDepth 100000 in
set_option maxHeartbeats 6400000 in
theorem graph_any {b : List UInt8} (hk : RdB w g f) (hv : Held w S (datB b) v) :
    Calls Tryz.prog 38 #[.pointer (some ⟨g, 0, none⟩), v] w (GraR w g f (dGraph b)) := by
  have hlt := hk.lt
  have hsm := dFields_sm b
  obtain ⟨A, c, rfl, -⟩ := hv.dv
  go_enter Tryz.func38, Tryz.ntmps38
  go_wp2_with fail
  refine Calls.mono (fields_any (hk.alloc _) (hv.alloc _)) ?_
  rintro e W1 ⟨u1, rfl, h1, k1, g1⟩
  obtain ⟨⟨fs, fl1⟩, hfs⟩ : ∃ r, dFields b = r := ⟨_, rfl⟩
  rw [hfs] at hsm h1 k1
  obtain ⟨A1, c1, rfl, -⟩ := h1.rf
  have HFS := Lib.hid hfs
  dsimp only at hsm h1 k1
  clear hv hfs
  go_wp2_with fail
  refine Calls.mono (name_any 2 k1 h1 hsm) ?_
  rintro e W2 ⟨rfl, k2, g2⟩
  have hz1 := g1.size
  have hz2 := g2.size
  obtain ⟨nm, hnm⟩ : ∃ nm, (dText fs 2 256).1 = nm := ⟨_, rfl⟩
  rw [hnm, show strV nm = .string ⟨nm.toArray⟩ from rfl]
  have HNM := Lib.hid hnm
  have ts2 := TS.start (cs := #[.int .i64 17, .string ⟨nm.toArray⟩, .slice none 0 0, .slice none 0 0, .slice none 0 0, .slice none 0 0]) hlt rfl (grown_trans g1 g2) k2
  have dfs : Held W2 (DT w W2.heap.size w.heap.size) (datFs fs) (.slice A1 fs.length c1) := (h1.mono (fun b hb => by have := hb.1; have := hb.2; simp at *; exact ⟨by omega, by omega, by omega⟩)).rd (S := DT w W2.heap.size w.heap.size) (fun h => by have := h.1; omega) g2
  have dfs' := dfs.alloc (.cells #[.int .i64 17, .string ⟨nm.toArray⟩, .slice none 0 0, .slice none 0 0, .slice none 0 0, .slice none 0 0] 26)
  clear dfs
  have dfs := dfs'
  have hgp : g ≠ W2.heap.size := by simp at hz1; omega
  have hpg : W2.heap.size ≠ g := by omega
  have hgq : g ≠ w.heap.size := by omega
  have hqg : w.heap.size ≠ g := by omega
  have hpq : W2.heap.size ≠ w.heap.size := by simp at hz1; omega
  have hqp : w.heap.size ≠ W2.heap.size := by omega
  clear dfs' hnm h1 hk k1 k2 g1 g2
  obtain ⟨⟨no, fno⟩, h_no⟩ : ∃ r, dList dNode fs 1 1024 = r := ⟨_, rfl⟩
  have H_no := Lib.hid h_no
  go_wp2_with fail
  refine Calls.mono (list_Nod 1 1024 ts2.k dfs hsm) ?_
  rintro e W3 ⟨x_no, u_no, rfl, himp, hxl, h3, k3, g3⟩
  have ts3 := ts2.call k3 g3
  have dfs' := dfs.dcall ts2 g3
  clear dfs
  have dfs := dfs'
  clear dfs'
  rw [h_no] at ts3 himp hxl
  dsimp only at ts3 himp hxl
  have d_no := h3.dt ts2
  clear h3 h_no
  obtain ⟨A_no, c_no, rfl, -⟩ := Held.rows (f := datN) (n := 5) (fun _ => rfl) (by omega) d_no
  have IM_no := Lib.hid himp
  clear himp hxl
  generalize x_no.length = n_no at *
  clear k3 g3
  obtain ⟨p0_1, p1_1, p2_1, p3_1, p4_1, p5_1, y0_1, y1_1, y2_1, y3_1, y4_1, y5_1, lp_1⟩ := blkc6 ts3.bp
  obtain ⟨q0_1, q1_1, q2_1, q3_1, q4_1, q5_1, x0_1, x1_1, x2_1, x3_1, x4_1, x5_1, lq_1⟩ := blkc6 ts3.bq
  have tp2 := ts3.setP 2 (.slice A_no n_no c_no)
  have dfs' := dfs.dP 2 (.slice A_no n_no c_no)
  clear dfs
  have dfs := dfs'
  clear dfs'
  have d_no' := d_no.dP 2 (.slice A_no n_no c_no)
  clear d_no
  have d_no := d_no'
  clear d_no'
  obtain ⟨⟨co, fco⟩, h_co⟩ : ∃ r, dList dTensor fs 5 1024 = r := ⟨_, rfl⟩
  have H_co := Lib.hid h_co
  go_wp2_with fail
  refine Calls.mono (list_Ini 5 1024 tp2.k dfs hsm) ?_
  rintro e W4 ⟨x_co, u_co, rfl, himp, hxl, h4, k4, g4⟩
  have ts4 := tp2.call k4 g4
  have dfs' := dfs.dcall tp2 g4
  clear dfs
  have dfs := dfs'
  clear dfs'
  have d_no' := d_no.dcall tp2 g4
  clear d_no
  have d_no := d_no'
  clear d_no'
  rw [h_co] at ts4 himp hxl
  dsimp only at ts4 himp hxl
  have d_co := h4.dt tp2
  clear h4 h_co
  obtain ⟨A_co, c_co, rfl, -⟩ := Held.rows (f := datC) (n := 6) (fun _ => rfl) (by omega) d_co
  have IM_co := Lib.hid himp
  clear himp hxl
  generalize x_co.length = n_co at *
  clear k4 g4
  obtain ⟨p0_3, p1_3, p2_3, p3_3, p4_3, p5_3, y0_3, y1_3, y2_3, y3_3, y4_3, y5_3, lp_3⟩ := blkc6 ts4.bp
  obtain ⟨q0_3, q1_3, q2_3, q3_3, q4_3, q5_3, x0_3, x1_3, x2_3, x3_3, x4_3, x5_3, lq_3⟩ := blkc6 ts4.bq
  have tp4 := ts4.setP 3 (.slice A_co n_co c_co)
  have dfs' := dfs.dP 3 (.slice A_co n_co c_co)
  clear dfs
  have dfs := dfs'
  clear dfs'
  have d_no' := d_no.dP 3 (.slice A_co n_co c_co)
  clear d_no
  have d_no := d_no'
  clear d_no'
  have d_co' := d_co.dP 3 (.slice A_co n_co c_co)
  clear d_co
  have d_co := d_co'
  clear d_co'
  obtain ⟨⟨io, fio⟩, h_io⟩ : ∃ r, dList dValue fs 11 64 = r := ⟨_, rfl⟩
  have H_io := Lib.hid h_io
  go_wp2_with fail
  refine Calls.mono (list_Val 11 64 tp4.k dfs hsm) ?_
  rintro e W5 ⟨u_io, rfl, h5, k5, g5⟩
  have ts5 := tp4.call k5 g5
  have dfs' := dfs.dcall tp4 g5
  clear dfs
  have dfs := dfs'
  clear dfs'
  have d_no' := d_no.dcall tp4 g5
  clear d_no
  have d_no := d_no'
  clear d_no'
  have d_co' := d_co.dcall tp4 g5
  clear d_co
  have d_co := d_co'
  clear d_co'
  rw [h_io] at ts5 h5
  dsimp only at ts5 h5
  have d_io := h5.dt tp4
  clear h5 h_io
  obtain ⟨A_io, c_io, rfl, -⟩ := Held.rows (f := datV) (n := 3) (fun _ => rfl) (by omega) d_io
  obtain ⟨n_io, hl_io⟩ : ∃ n, io.length = n := ⟨_, rfl⟩
  rw [hl_io]
  rw [hl_io] at d_io
  have HL_io := Lib.hid hl_io
  clear hl_io
  clear k5 g5
  obtain ⟨p0_5, p1_5, p2_5, p3_5, p4_5, p5_5, y0_5, y1_5, y2_5, y3_5, y4_5, y5_5, lp_5⟩ := blkc6 ts5.bp
  obtain ⟨q0_5, q1_5, q2_5, q3_5, q4_5, q5_5, x0_5, x1_5, x2_5, x3_5, x4_5, x5_5, lq_5⟩ := blkc6 ts5.bq
  have tp6 := ts5.setP 4 (.slice A_io n_io c_io)
  have dfs' := dfs.dP 4 (.slice A_io n_io c_io)
  clear dfs
  have dfs := dfs'
  clear dfs'
  have d_no' := d_no.dP 4 (.slice A_io n_io c_io)
  clear d_no
  have d_no := d_no'
  clear d_no'
  have d_co' := d_co.dP 4 (.slice A_io n_io c_io)
  clear d_co
  have d_co := d_co'
  clear d_co'
  have d_io' := d_io.dP 4 (.slice A_io n_io c_io)
  clear d_io
  have d_io := d_io'
  clear d_io'
  obtain ⟨⟨oo, foo⟩, h_oo⟩ : ∃ r, dList dValue fs 12 64 = r := ⟨_, rfl⟩
  have H_oo := Lib.hid h_oo
  go_wp2_with fail
  refine Calls.mono (list_Val 12 64 tp6.k dfs hsm) ?_
  rintro e W6 ⟨u_oo, rfl, h6, k6, g6⟩
  have ts6 := tp6.call k6 g6
  have dfs' := dfs.dcall tp6 g6
  clear dfs
  have dfs := dfs'
  clear dfs'
  have d_no' := d_no.dcall tp6 g6
  clear d_no
  have d_no := d_no'
  clear d_no'
  have d_co' := d_co.dcall tp6 g6
  clear d_co
  have d_co := d_co'
  clear d_co'
  have d_io' := d_io.dcall tp6 g6
  clear d_io
  have d_io := d_io'
  clear d_io'
  rw [h_oo] at ts6 h6
  dsimp only at ts6 h6
  have d_oo := h6.dt tp6
  clear h6 h_oo
  obtain ⟨A_oo, c_oo, rfl, -⟩ := Held.rows (f := datV) (n := 3) (fun _ => rfl) (by omega) d_oo
  obtain ⟨n_oo, hl_oo⟩ : ∃ n, oo.length = n := ⟨_, rfl⟩
  rw [hl_oo]
  rw [hl_oo] at d_oo
  have HL_oo := Lib.hid hl_oo
  clear hl_oo
  clear k6 g6
  obtain ⟨p0_7, p1_7, p2_7, p3_7, p4_7, p5_7, y0_7, y1_7, y2_7, y3_7, y4_7, y5_7, lp_7⟩ := blkc6 ts6.bp
  obtain ⟨q0_7, q1_7, q2_7, q3_7, q4_7, q5_7, x0_7, x1_7, x2_7, x3_7, x4_7, x5_7, lq_7⟩ := blkc6 ts6.bq
  have tp8 := ts6.setP 5 (.slice A_oo n_oo c_oo)
  have dfs' := dfs.dP 5 (.slice A_oo n_oo c_oo)
  clear dfs
  have dfs := dfs'
  clear dfs'
  have d_no' := d_no.dP 5 (.slice A_oo n_oo c_oo)
  clear d_no
  have d_no := d_no'
  clear d_no'
  have d_co' := d_co.dP 5 (.slice A_oo n_oo c_oo)
  clear d_co
  have d_co := d_co'
  clear d_co'
  have d_io' := d_io.dP 5 (.slice A_oo n_oo c_oo)
  clear d_io
  have d_io := d_io'
  clear d_io'
  have d_oo' := d_oo.dP 5 (.slice A_oo n_oo c_oo)
  clear d_oo
  have d_oo := d_oo'
  clear d_oo'
  obtain ⟨⟨so, fso⟩, h_so⟩ : ∃ r, dList dZero fs 15 fs.length = r := ⟨_, rfl⟩
  have H_so := Lib.hid h_so
  go_wp2_with fail
  refine Calls.mono (list_Int2 15 fs.length tp8.k dfs hsm) ?_
  rintro e W7 ⟨u_so, rfl, h7, k7, g7⟩
  have ts7 := tp8.call k7 g7
  have dfs' := dfs.dcall tp8 g7
  clear dfs
  have dfs := dfs'
  clear dfs'
  have d_no' := d_no.dcall tp8 g7
  clear d_no
  have d_no := d_no'
  clear d_no'
  have d_co' := d_co.dcall tp8 g7
  clear d_co
  have d_co := d_co'
  clear d_co'
  have d_io' := d_io.dcall tp8 g7
  clear d_io
  have d_io := d_io'
  clear d_io'
  have d_oo' := d_oo.dcall tp8 g7
  clear d_oo
  have d_oo := d_oo'
  clear d_oo'
  rw [h_so] at ts7 h7
  dsimp only at ts7 h7
  have d_so := h7.dt tp8
  clear h7 h_so
  obtain ⟨A_so, c_so, rfl, -⟩ := Held.rows (f := (fun x => [lfI x])) (n := 1) (fun _ => rfl) (by omega) d_so
  obtain ⟨n_so, hl_so⟩ : ∃ n, so.length = n := ⟨_, rfl⟩
  rw [hl_so]
  rw [hl_so] at d_so
  have HL_so := Lib.hid hl_so
  clear hl_so
  clear k7 g7
  obtain ⟨b0_9, b1_9, b2_9, B0_9, B1_9, B2_9, k0_9, k1_9, k2_9, z0_9, z1_9, z2_9, lg_9⟩ := ts7.fl
  obtain ⟨p0_9, p1_9, p2_9, p3_9, p4_9, p5_9, y0_9, y1_9, y2_9, y3_9, y4_9, y5_9, lp_9⟩ := blkc6 ts7.bp
  obtain ⟨q0_9, q1_9, q2_9, q3_9, q4_9, q5_9, x0_9, x1_9, x2_9, x3_9, x4_9, x5_9, lq_9⟩ := blkc6 ts7.bq
  have HSO : Hid ((!so.isEmpty) = decide (0 < n_so)) := Lib.hid (by rw [← HL_so.out]; cases so <;> simp)
  obtain ⟨se, hse⟩ : ∃ s, decide (0 < n_so) = s := ⟨_, rfl⟩
  have HE : Hid (dGraph b = (⟨17, nm, no, co, io, oo⟩, fl1.or ((dText fs 2 256).2.or <| fno.or <| fco.or <| fio.or <| foo.or <| fso.or ⟨false, se, false⟩))) := Lib.hid (by
    unfold dGraph dGraL
    rw [HFS.out]
    dsimp only
    rw [H_no.out, H_co.out, H_io.out, H_oo.out, H_so.out]
    dsimp only
    rw [HNM.out, HSO.out, hse])
  have hw : b1_9 = true ∨ (b1_9 = false ∧ se = true) ∨ (b1_9 = false ∧ se = false) := by
    clear hse HE
    cases b1_9 <;> cases se <;> simp
  rcases hw with rfl | ⟨rfl, rfl⟩ | ⟨rfl, rfl⟩
  · try (have hq1 := of_decide_eq_true hse)
    try (have hq1 := of_decide_eq_false hse)
    have tse := ts7.or1 se (b := true) (by rw [B1_9.out]; rfl)
    go_wp2
    refine bodyPost_ret (gra_out _ _ w.heap.size _ _ _ _ _ _ rfl (TS.fin6 tse).bq) rfl ?_
    refine ⟨⟨17, nm, x_no, x_co, io, oo⟩, _, ?_, rfl, ⟨_, _, _, _, _, _, _, _, _, _, _, _, rfl, (Held.fin6 (d_no.dG hlt 1 (.bool true))).done, (Held.fin6 (d_co.dG hlt 1 (.bool true))).done, (Held.fin6 (d_io.dG hlt 1 (.bool true))).done, (Held.fin6 (d_oo.dG hlt 1 (.bool true))).done⟩, ?_, (TS.fin6 tse).gr⟩
    · intro h
      rw [HE.out] at h ⊢
      rw [IM_no.out (by simp [Fl.or] at h ⊢; simp [h]), IM_co.out (by simp [Fl.or] at h ⊢; simp [h])]
    · rw [HE.out]; exact ((TS.fin6 tse).k).to (by ac_rfl)
  · try (have hq1 := of_decide_eq_true hse)
    try (have hq1 := of_decide_eq_false hse)
    have tse := ts7.or1 true (b := true) (by rw [B1_9.out]; rfl)
    go_wp2
    refine bodyPost_ret (gra_out _ _ w.heap.size _ _ _ _ _ _ rfl (TS.fin6 tse).bq) rfl ?_
    refine ⟨⟨17, nm, x_no, x_co, io, oo⟩, _, ?_, rfl, ⟨_, _, _, _, _, _, _, _, _, _, _, _, rfl, (Held.fin6 (d_no.dG hlt 1 (.bool true))).done, (Held.fin6 (d_co.dG hlt 1 (.bool true))).done, (Held.fin6 (d_io.dG hlt 1 (.bool true))).done, (Held.fin6 (d_oo.dG hlt 1 (.bool true))).done⟩, ?_, (TS.fin6 tse).gr⟩
    · intro h
      rw [HE.out] at h ⊢
      rw [IM_no.out (by simp [Fl.or] at h ⊢; simp [h]), IM_co.out (by simp [Fl.or] at h ⊢; simp [h])]
    · rw [HE.out]; exact ((TS.fin6 tse).k).to (by ac_rfl)
  · try (have hq1 := of_decide_eq_true hse)
    try (have hq1 := of_decide_eq_false hse)
    have tse := ts7.or1 false (b := false) (by rw [B1_9.out]; rfl)
    go_wp2
    refine bodyPost_ret (gra_out _ _ w.heap.size _ _ _ _ _ _ rfl (TS.fin6 tse).bq) rfl ?_
    refine ⟨⟨17, nm, x_no, x_co, io, oo⟩, _, ?_, rfl, ⟨_, _, _, _, _, _, _, _, _, _, _, _, rfl, (Held.fin6 (d_no.dG hlt 1 (.bool false))).done, (Held.fin6 (d_co.dG hlt 1 (.bool false))).done, (Held.fin6 (d_io.dG hlt 1 (.bool false))).done, (Held.fin6 (d_oo.dG hlt 1 (.bool false))).done⟩, ?_, (TS.fin6 tse).gr⟩
    · intro h
      rw [HE.out] at h ⊢
      rw [IM_no.out (by simp [Fl.or] at h ⊢; simp [h]), IM_co.out (by simp [Fl.or] at h ⊢; simp [h])]
    · rw [HE.out]; exact ((TS.fin6 tse).k).to (by ac_rfl)
end
end Go.Proofs.YtlhpmlknmgocoaaGreat
