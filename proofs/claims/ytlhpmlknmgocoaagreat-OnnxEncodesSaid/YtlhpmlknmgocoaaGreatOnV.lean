/- The reader's node. -/
import Derived.Test.YtlhpmlknmgocoaaGreatOnU
import Derived.Test.YtlhpmlknmgocoaaGreatOnJ
namespace Go.Proofs.YtlhpmlknmgocoaaGreat
set_option linter.unusedSimpArgs false
set_option linter.unusedVariables false
open Go.RowKit
theorem nod_out (w : World) (tmps : Array Value) (g : Nat) (c0 c1 c2 c3 c4 : Value) (h4 : tmps.getD 4 undef = .pointer (some ⟨g, 0, none⟩)) (hk : Blk w g 48 #[c0, c1, c2, c3, c4]) :
    (results Tryz.f67 tmps).run Tryz.prog w = .ok (.agg #[c0, c1, c2, c3, c4]) w := by
  obtain ⟨k0, k1, k2, k3, k4, -⟩ := blkc5 hk
  rw [Array.getD_eq_getD_getElem?] at h4
  simp [results, Tryz.results67, go_sem, h4, k0, k1, k2, k3, k4]
def fin5 (W : World) (q : Nat) (c0 c1 c2 c3 c4 : Value) : World := ((((W.setCell ⟨q, 0, none⟩ c0).setCell ⟨q, 1, none⟩ c1).setCell ⟨q, 2, none⟩ c2).setCell ⟨q, 3, none⟩ c3).setCell ⟨q, 4, none⟩ c4
section
variable {w W : World} {g q p : Nat} {T : TypeId} {f : Fl} {cs : Array Value} {d : Dat} {u c0 c1 c2 c3 c4 a0 a1 a2 a3 a4 : Value}
theorem TS.fin5 (h : TS w W g q p T f cs #[a0, a1, a2, a3, a4]) : TS w (Proofs.YtlhpmlknmgocoaaGreat.fin5 W q c0 c1 c2 c3 c4) g q p T f cs #[c0, c1, c2, c3, c4] := by
  have := ((((h.setQ 0 c0).setQ 1 c1).setQ 2 c2).setQ 3 c3).setQ 4 c4
  simpa [Proofs.YtlhpmlknmgocoaaGreat.fin5] using this
theorem Held.fin5 (h : Held W (DT w p q) d u) : Held (Proofs.YtlhpmlknmgocoaaGreat.fin5 W q c0 c1 c2 c3 c4) (DT w p q) d u := ((((h.dQ 0 c0).dQ 1 c1).dQ 2 c2).dQ 3 c3).dQ 4 c4
end
def NodR (w : World) (g : Nat) (f : Fl) (r : Nod × Fl) (e : Ending) (w' : World) : Prop :=
  ∃ (x : Nod) (A1 : Option Addr) (n1 c1 : Nat) (A2 : Option Addr) (n2 c2 : Nat) (A3 : Option Addr) (n3 c3 : Nat), ((f.or r.2).bad = false → x = r.1) ∧
    e = .returned (.agg #[.string ⟨x.op.toArray⟩, .string ⟨x.name.toArray⟩, .slice A1 n1 c1, .slice A2 n2 c2, .slice A3 n3 c3]) ∧
    Held w' (Inb w.heap.size w'.heap.size) (datS x.ins) (.slice A1 n1 c1) ∧ Held w' (Inb w.heap.size w'.heap.size) (datS x.outs) (.slice A2 n2 c2) ∧
    Held w' (Inb w.heap.size w'.heap.size) (.row 12 (x.attrs.flatMap datA)) (.slice A3 n3 c3) ∧ RdB w' g (f.or r.2) ∧ w.grownBy w' (some g)
section
variable {g : Nat} {f : Fl} {S : Nat → Prop} {v : Value} {w : World}
set_option maxRecDepth 100000 in
set_option maxHeartbeats 6400000 in
theorem node_any {b : List UInt8} (hk : RdB w g f) (hv : Held w S (datB b) v) :
    Calls Tryz.prog 67 #[.pointer (some ⟨g, 0, none⟩), v] w (NodR w g f (dNode b)) := by
  have hlt := hk.lt
  have hsm := dFields_sm b
  obtain ⟨A, c, rfl, -⟩ := hv.dv
  go_enter Tryz.func67, Tryz.ntmps67
  go_wp2_with fail
  refine Calls.mono (fields_any (hk.alloc _) (hv.alloc _)) ?_
  rintro e W1 ⟨u1, rfl, h1, k1, g1⟩
  obtain ⟨⟨fs, fl1⟩, hfs⟩ : ∃ r, dFields b = r := ⟨_, rfl⟩
  rw [hfs] at hsm h1 k1
  obtain ⟨A1, c1, rfl, -⟩ := h1.rf
  have HFS := Lib.hid hfs
  dsimp only at hsm h1 k1
  clear hv hfs hk
  have hz1 := g1.size
  simp at hz1
  obtain ⟨⟨op, flo⟩, hop⟩ : ∃ r, dText fs 4 256 = r := ⟨_, rfl⟩
  have HOP := Lib.hid hop
  go_wp2_with fail
  refine Calls.mono (name_any 4 k1 h1 hsm) ?_
  rintro e W2 ⟨rfl, k2, g2⟩
  rw [hop] at k2
  rw [hop]
  dsimp only at k2
  dsimp only
  rw [show strV op = .string ⟨op.toArray⟩ from rfl]
  have h2 := h1.rd (g := g) (fun h => by have := h.1; simp at this; omega) g2
  have hz2 := g2.size
  clear hop h1 k1
  obtain ⟨⟨nm, fln⟩, hnm⟩ : ∃ r, dText fs 3 256 = r := ⟨_, rfl⟩
  have HNM := Lib.hid hnm
  go_wp2_with fail
  refine Calls.mono (name_any 3 k2 h2 hsm) ?_
  rintro e W3 ⟨rfl, k3, g3⟩
  rw [hnm] at k3
  rw [hnm]
  dsimp only at k3
  dsimp only
  rw [show strV nm = .string ⟨nm.toArray⟩ from rfl]
  have h3 := h2.rd (g := g) (fun h => by have := h.1; simp at this; omega) g3
  have hz3 := g3.size
  clear hnm h2 k2
  obtain ⟨⟨ii, fli⟩, hii⟩ : ∃ r, dNames fs 1 = r := ⟨_, rfl⟩
  have HII := Lib.hid hii
  go_wp2_with fail
  refine Calls.mono (names_any 1 k3 h3 hsm) ?_
  rintro e W4 ⟨ui, rfl, hi4, k4, g4⟩
  rw [hii] at k4 hi4
  dsimp only at k4 hi4
  have h4 := h3.rd (g := g) (fun h => by have := h.1; simp at this; omega) g4
  have hz4 := g4.size
  clear hii h3 k3
  obtain ⟨Ai, ci, rfl, -⟩ := Held.leaves hi4
  obtain ⟨⟨oo, flq⟩, hoo⟩ : ∃ r, dNames fs 2 = r := ⟨_, rfl⟩
  have HOO := Lib.hid hoo
  go_wp2_with fail
  refine Calls.mono (names_any 2 k4 h4 hsm) ?_
  rintro e W5 ⟨uo, rfl, ho5, k5, g5⟩
  rw [hoo] at k5 ho5
  dsimp only at k5 ho5
  have h5 := h4.rd (g := g) (fun h => by have := h.1; simp at this; omega) g5
  have hi5 := hi4.rd (g := g) (fun h => by have := h.1; omega) g5
  have hz5 := g5.size
  clear hoo h4 k4 hi4
  obtain ⟨Ao, co, rfl, -⟩ := Held.leaves ho5
  generalize ii.length = ni at *
  generalize oo.length = no at *
  have ts5 := TS.start (cs := #[.string ⟨op.toArray⟩, .string ⟨nm.toArray⟩, .slice Ai ni ci, .slice Ao no co, .slice none 0 0]) hlt rfl (grown_trans g1 (grown_trans g2 (grown_trans g3 (grown_trans g4 g5)))) k5
  have dfs := (h5.mono (S' := DT w W5.heap.size w.heap.size) (fun b hb => by have := hb.1; have := hb.2; simp at *; exact ⟨by omega, by omega, by omega⟩)).alloc (.cells #[.string ⟨op.toArray⟩, .string ⟨nm.toArray⟩, .slice Ai ni ci, .slice Ao no co, .slice none 0 0] 48)
  have dI := (hi5.mono (S' := DT w W5.heap.size w.heap.size) (fun b hb => by have := hb.1; have := hb.2; exact ⟨by omega, by omega, by omega⟩)).alloc (.cells #[.string ⟨op.toArray⟩, .string ⟨nm.toArray⟩, .slice Ai ni ci, .slice Ao no co, .slice none 0 0] 48)
  have dO := (ho5.mono (S' := DT w W5.heap.size w.heap.size) (fun b hb => by have := hb.1; have := hb.2; exact ⟨by omega, by omega, by omega⟩)).alloc (.cells #[.string ⟨op.toArray⟩, .string ⟨nm.toArray⟩, .slice Ai ni ci, .slice Ao no co, .slice none 0 0] 48)
  have hgp : g ≠ W5.heap.size := by omega
  have hpg : W5.heap.size ≠ g := by omega
  have hgq : g ≠ w.heap.size := by omega
  have hqg : w.heap.size ≠ g := by omega
  have hpq : W5.heap.size ≠ w.heap.size := by omega
  have hqp : w.heap.size ≠ W5.heap.size := by omega
  clear h5 hi5 ho5 k5 g1 g2 g3 g4 g5
  obtain ⟨⟨ats, fla⟩, has⟩ : ∃ r, dList dAttr fs 5 64 = r := ⟨_, rfl⟩
  have HAS := Lib.hid has
  go_wp2_with fail
  refine Calls.mono (list_Att 5 64 ts5.k dfs hsm) ?_
  rintro e W6 ⟨xa, ua, rfl, himp, hxl, h6, k6, g6⟩
  have ts6 := ts5.call k6 g6
  have dfs' := dfs.dcall ts5 g6
  clear dfs
  have dfs := dfs'
  clear dfs'
  have dI' := dI.dcall ts5 g6
  clear dI
  have dI := dI'
  clear dI'
  have dO' := dO.dcall ts5 g6
  clear dO
  have dO := dO'
  clear dO'
  rw [has] at ts6 himp hxl
  dsimp only at ts6 himp hxl
  have dA := h6.dt ts5
  clear h6 has
  obtain ⟨Aa, ca, rfl, -⟩ := Held.rows (f := datA) (n := 12) (fun _ => rfl) (by omega) dA
  have HIM := Lib.hid himp
  clear himp
  clear k6 g6
  clear hxl
  generalize xa.length = na at *
  obtain ⟨p0_1, p1_1, p2_1, p3_1, p4_1, y0_1, y1_1, y2_1, y3_1, y4_1, lp_1⟩ := blkc5 ts6.bp
  obtain ⟨q0_1, q1_1, q2_1, q3_1, q4_1, x0_1, x1_1, x2_1, x3_1, x4_1, lq_1⟩ := blkc5 ts6.bq
  have tpp := ts6.setP 4 (.slice Aa na ca)
  have dfs' := dfs.dP 4 (.slice Aa na ca)
  clear dfs
  have dfs := dfs'
  clear dfs'
  have dI' := dI.dP 4 (.slice Aa na ca)
  clear dI
  have dI := dI'
  clear dI'
  have dO' := dO.dP 4 (.slice Aa na ca)
  clear dO
  have dO := dO'
  clear dO'
  have dA' := dA.dP 4 (.slice Aa na ca)
  clear dA
  have dA := dA'
  clear dA'
  obtain ⟨p0_2, p1_2, p2_2, p3_2, p4_2, y0_2, y1_2, y2_2, y3_2, y4_2, lp_2⟩ := blkc5 tpp.bp
  obtain ⟨q0_2, q1_2, q2_2, q3_2, q4_2, x0_2, x1_2, x2_2, x3_2, x4_2, lq_2⟩ := blkc5 tpp.bq
  obtain ⟨b0_3, b1_3, b2_3, B0_3, B1_3, B2_3, k0_3, k1_3, k2_3, z0_3, z1_3, z2_3, lg_3⟩ := tpp.fl
  go_upto_region 4 with fail
  go_cut [] (fun wx => wx = (W6.setCell ⟨W5.heap.size, 4, none⟩ (.slice Aa na ca)).setCell ⟨g, 0, none⟩ (.bool (b0_3 || op.isEmpty)))
  case first =>
    as_aux_lemma =>
      cases b0_3 <;> cases op
      all_goals
        go_wp2
        go_meet
        case rel => simp
  case rest =>
    focus
      have ts7 := tpp.or0 op.isEmpty (b := (b0_3 || op.isEmpty)) (by rw [B0_3.out])
      have dfs' := dfs.dG hlt 0 (.bool (b0_3 || op.isEmpty))
      clear dfs
      have dfs := dfs'
      clear dfs'
      have dI' := dI.dG hlt 0 (.bool (b0_3 || op.isEmpty))
      clear dI
      have dI := dI'
      clear dI'
      have dO' := dO.dG hlt 0 (.bool (b0_3 || op.isEmpty))
      clear dO
      have dO := dO'
      clear dO'
      have dA' := dA.dG hlt 0 (.bool (b0_3 || op.isEmpty))
      clear dA
      have dA := dA'
      clear dA'
      rw [← hcut] at ts7 dfs dI dO dA
      clear hcut
      clear k0_3 k1_3 k2_3 z0_3 z1_3 z2_3 lg_3
      obtain ⟨W7, hWk⟩ : ∃ W, W = wc := ⟨_, rfl⟩
      subst hWk
      obtain ⟨⟨dm, fld⟩, hdm⟩ : ∃ r, dText fs 7 4194304 = r := ⟨_, rfl⟩
      have HDM := Lib.hid hdm
      go_wp2_with fail
      refine Calls.mono (domain_any 7 ts7.k dfs hsm) ?_
      rintro e W8 ⟨rfl, k8, g8⟩
      have ts8 := ts7.call k8 g8
      have dfs' := dfs.dcall ts7 g8
      clear dfs
      have dfs := dfs'
      clear dfs'
      have dI' := dI.dcall ts7 g8
      clear dI
      have dI := dI'
      clear dI'
      have dO' := dO.dcall ts7 g8
      clear dO
      have dO := dO'
      clear dO'
      have dA' := dA.dcall ts7 g8
      clear dA
      have dA := dA'
      clear dA'
      rw [hdm] at ts8
      rw [hdm]
      dsimp only at ts8
      dsimp only
      rw [show strV dm = .string ⟨dm.toArray⟩ from rfl]
      clear hdm
      clear k8 g8
      obtain ⟨b0_4, b1_4, b2_4, B0_4, B1_4, B2_4, k0_4, k1_4, k2_4, z0_4, z1_4, z2_4, lg_4⟩ := ts8.fl
      obtain ⟨p0_4, p1_4, p2_4, p3_4, p4_4, y0_4, y1_4, y2_4, y3_4, y4_4, lp_4⟩ := blkc5 ts8.bp
      obtain ⟨q0_4, q1_4, q2_4, q3_4, q4_4, x0_4, x1_4, x2_4, x3_4, x4_4, lq_4⟩ := blkc5 ts8.bq
      obtain ⟨ou, hou⟩ : ∃ o, oursP dm = o := ⟨_, rfl⟩
      have HOU := Lib.hid hou
      clear hou
      have HE : Hid (dNode b = (⟨op, nm, ii, oo, ats⟩, fl1.or (flo.or <| fln.or <| fli.or <| flq.or <| fla.or <| (flb op.isEmpty).or <| fld.or ⟨false, !ou, false⟩))) := Lib.hid (by
        unfold dNode dNodL
        rw [HFS.out]
        dsimp only
        rw [HOP.out, HNM.out, HII.out, HOO.out, HAS.out, HDM.out]
        dsimp only
        rw [HOU.out])
      have hw : b1_4 = true ∨ (b1_4 = false ∧ ou = true) ∨ (b1_4 = false ∧ ou = false) := by cases b1_4 <;> cases ou <;> simp
      rcases hw with rfl | ⟨rfl, rfl⟩ | ⟨rfl, rfl⟩
      · have tse := ts8.or1 (!ou) (b := true) (by rw [B1_4.out]; rfl)
        go_wp2_with (go_at_call 92; refine Calls.mono (ours_any _ _) ?_; rintro e' w' ⟨rfl, hw'⟩; subst w'; rw [HOU.out])
        refine bodyPost_ret (nod_out _ _ w.heap.size _ _ _ _ _ rfl (TS.fin5 tse).bq) rfl ?_
        refine ⟨⟨op, nm, ii, oo, xa⟩, _, _, _, _, _, _, _, _, _, ?_, rfl, (Held.fin5 (dI.dG hlt 1 (.bool true))).done, (Held.fin5 (dO.dG hlt 1 (.bool true))).done, (Held.fin5 (dA.dG hlt 1 (.bool true))).done, ?_, (TS.fin5 tse).gr⟩
        · intro h
          rw [HE.out] at h ⊢
          rw [HIM.out (by simp [Fl.or] at h ⊢; simp [h])]
        · rw [HE.out]; exact ((TS.fin5 tse).k).to (by ac_rfl)
      · have tse := ts8.or1 (!true) (b := false) (by rw [B1_4.out]; rfl)
        go_wp2_with (go_at_call 92; refine Calls.mono (ours_any _ _) ?_; rintro e' w' ⟨rfl, hw'⟩; subst w'; rw [HOU.out])
        refine bodyPost_ret (nod_out _ _ w.heap.size _ _ _ _ _ rfl (TS.fin5 tse).bq) rfl ?_
        refine ⟨⟨op, nm, ii, oo, xa⟩, _, _, _, _, _, _, _, _, _, ?_, rfl, (Held.fin5 (dI.dG hlt 1 (.bool false))).done, (Held.fin5 (dO.dG hlt 1 (.bool false))).done, (Held.fin5 (dA.dG hlt 1 (.bool false))).done, ?_, (TS.fin5 tse).gr⟩
        · intro h
          rw [HE.out] at h ⊢
          rw [HIM.out (by simp [Fl.or] at h ⊢; simp [h])]
        · rw [HE.out]; exact ((TS.fin5 tse).k).to (by ac_rfl)
      · have tse := ts8.or1 (!false) (b := true) (by rw [B1_4.out]; rfl)
        go_wp2_with (go_at_call 92; refine Calls.mono (ours_any _ _) ?_; rintro e' w' ⟨rfl, hw'⟩; subst w'; rw [HOU.out])
        refine bodyPost_ret (nod_out _ _ w.heap.size _ _ _ _ _ rfl (TS.fin5 tse).bq) rfl ?_
        refine ⟨⟨op, nm, ii, oo, xa⟩, _, _, _, _, _, _, _, _, _, ?_, rfl, (Held.fin5 (dI.dG hlt 1 (.bool true))).done, (Held.fin5 (dO.dG hlt 1 (.bool true))).done, (Held.fin5 (dA.dG hlt 1 (.bool true))).done, ?_, (TS.fin5 tse).gr⟩
        · intro h
          rw [HE.out] at h ⊢
          rw [HIM.out (by simp [Fl.or] at h ⊢; simp [h])]
        · rw [HE.out]; exact ((TS.fin5 tse).k).to (by ac_rfl)
end
end Go.Proofs.YtlhpmlknmgocoaaGreat
