/- Decode. -/
import Derived.Test.YtlhpmlknmgocoaaGreatOnY
import Derived.Test.YtlhpmlknmgocoaaGreatOnL
namespace Go.Proofs.YtlhpmlknmgocoaaGreat
set_option linter.unusedSimpArgs false
set_option linter.unusedVariables false
open Go.RowKit
theorem dec_out (w : World) (tmps : Array Value) (g : Nat) (c0 c1 c2 c3 c4 c5 er : Value) (h2 : tmps.getD 2 undef = .pointer (some ⟨g, 0, none⟩)) (h3 : tmps.getD 3 undef = er) (hk : Blk w g 26 #[c0, c1, c2, c3, c4, c5]) :
    (results Tryz.f10 tmps).run Tryz.prog w = .ok (.tuple #[.agg #[c0, c1, c2, c3, c4, c5], er]) w := by
  obtain ⟨k0, k1, k2, k3, k4, k5, -⟩ := blkc6 hk
  subst h3
  rw [Array.getD_eq_getD_getElem?] at h2
  simp [results, Tryz.results10, go_sem, h2, k0, k1, k2, k3, k4, k5]
theorem Blk.fin6 {w : World} {q : Nat} {t : TypeId} {a0 a1 a2 a3 a4 a5 : Value} (h : Blk w q t #[a0, a1, a2, a3, a4, a5]) (c0 c1 c2 c3 c4 c5 : Value) : Blk (Proofs.YtlhpmlknmgocoaaGreat.fin6 w q c0 c1 c2 c3 c4 c5) q t #[c0, c1, c2, c3, c4, c5] := by
  have := (((((h.set_ 0 c0).set_ 1 c1).set_ 2 c2).set_ 3 c3).set_ 4 c4).set_ 5 c5
  simpa [Proofs.YtlhpmlknmgocoaaGreat.fin6] using this
/-- what Decode answers -/
def DecR (w : World) (r : Mo × Int) (e : Ending) (w' : World) : Prop :=
  ∃ u, e = .returned (.tuple #[u, .int .i64 r.2]) ∧ MoV w' (Inb w.heap.size w'.heap.size) r.1 u ∧ Below w.heap.size w w'
theorem MoV.zero (w : World) (S : Nat → Prop) : MoV w S mo0 (.agg #[.int .i64 0, .string ⟨#[]⟩, .slice none 0 0, .slice none 0 0, .slice none 0 0, .slice none 0 0]) :=
  ⟨none, 0, 0, none, 0, 0, none, 0, 0, none, 0, 0, rfl, Held.nil _ _ _ _ _ (by unfold maxLen; omega), Held.nil _ _ _ _ _ (by unfold maxLen; omega), Held.nil _ _ _ _ _ (by unfold maxLen; omega), Held.nil _ _ _ _ _ (by unfold maxLen; omega)⟩
set_option maxRecDepth 100000 in
set_option maxHeartbeats 6400000 in
theorem decode_any {S : Nat → Prop} {v : Value} {w : World} {b : List UInt8} (hv : Held w S (datB b) v) :
    Calls Tryz.prog 10 #[v] w (DecR w (decM b)) := by
  obtain ⟨A, c, rfl, h2, h3, h4⟩ := hv.dv
  by_cases hlong : 4194304 < b.length
  · have HE : Hid (decM b = (mo0, 8)) := Lib.hid (by unfold decM; rw [if_pos hlong])
    have hb := Blk.new w 26 #[.int .i64 0, .string ⟨#[]⟩, .slice none 0 0, .slice none 0 0, .slice none 0 0, .slice none 0 0]
    obtain ⟨q0, q1, q2, q3, q4, q5, x0, x1, x2, x3, x4, x5, lq⟩ := blkc6 hb
    generalize b.length = n at *
    go_enter Tryz.func10, Tryz.ntmps10
    go_wp2
    refine bodyPost_ret (dec_out _ _ w.heap.size _ _ _ _ _ _ _ rfl rfl hb) rfl ?_
    rw [HE.out]
    exact ⟨_, rfl, MoV.zero _ _, (Below.refl _ _).alloc (Nat.le_refl _) _⟩
  · have hsm := dFields_sm b
    have HDM : Hid (decM b = if errP (dModel b).2 = 0 then ((dModel b).1, 0) else (mo0, errP (dModel b).2)) := Lib.hid (by unfold decM; rw [if_neg hlong])
    have hlong' : b.length ≤ 4194304 := by omega
    clear hlong
    have k0 : RdB ((w.alloc (.cells #[.int .i64 0, .string ⟨#[]⟩, .slice none 0 0, .slice none 0 0, .slice none 0 0, .slice none 0 0] 26)).alloc (.cells #[.bool false, .bool false, .bool false] 83)) (w.heap.size + 1) fl0 := by
      have := Blk.new (w.alloc (.cells #[.int .i64 0, .string ⟨#[]⟩, .slice none 0 0, .slice none 0 0, .slice none 0 0, .slice none 0 0] 26)) 83 #[.bool false, .bool false, .bool false]
      simpa [RdB, fl0] using this
    have hv1 := (hv.alloc (.cells #[.int .i64 0, .string ⟨#[]⟩, .slice none 0 0, .slice none 0 0, .slice none 0 0, .slice none 0 0] 26)).alloc (.cells #[.bool false, .bool false, .bool false] 83)
    have bq := (Blk.new w 26 #[.int .i64 0, .string ⟨#[]⟩, .slice none 0 0, .slice none 0 0, .slice none 0 0, .slice none 0 0]).alloc (.cells #[.bool false, .bool false, .bool false] 83)
    have hb0 : Below w.heap.size w ((w.alloc (.cells #[.int .i64 0, .string ⟨#[]⟩, .slice none 0 0, .slice none 0 0, .slice none 0 0, .slice none 0 0] 26)).alloc (.cells #[.bool false, .bool false, .bool false] 83)) := ((Below.refl _ _).alloc (Nat.le_refl _) _).alloc (by simp) _
    go_enter Tryz.func10, Tryz.ntmps10
    go_wp2_with fail
    refine Calls.mono (fields_any k0 hv1) ?_
    rintro e W1 ⟨u1, rfl, h1, k1, g1⟩
    obtain ⟨⟨fs, fl1⟩, hfs⟩ : ∃ r, dFields b = r := ⟨_, rfl⟩
    rw [hfs] at hsm h1 k1
    obtain ⟨A1, c1, rfl, -⟩ := h1.rf
    have HFS := Lib.hid hfs
    dsimp only at hsm h1 k1
    have hz1 := g1.size
    simp at hz1
    have bq1 := bq.grown g1 (by simp)
    clear hv hv1 hfs bq k0
    go_wp2_with fail
    refine Calls.mono (number_any 1 k1 h1 hsm) ?_
    rintro e W2 ⟨rfl, k2, g2⟩
    have h2 := h1.rd (g := w.heap.size + 1) (fun h => by have := h.1; simp at this; omega) g2
    have bq2 := bq1.grown g2 (by simp)
    have hz2 := g2.size
    clear h1 k1 bq1
    obtain ⟨⟨⟨bd, is⟩, flb7⟩, hms⟩ : ∃ r, dMsg fs 7 = r := ⟨_, rfl⟩
    have HMS := Lib.hid hms
    go_wp2_with fail
    refine Calls.mono (message_any 7 k2 h2 hsm) ?_
    rintro e W3 ⟨u3, rfl, hbd, k3, g3⟩
    rw [hms] at k3 hbd
    rw [hms]
    dsimp only at k3 hbd
    dsimp only
    have h3 := h2.rd (g := w.heap.size + 1) (fun h => by have := h.1; simp at this; omega) g3
    have bq3 := bq2.grown g3 (by simp)
    have hz3 := g3.size
    have hb3 : Below w.heap.size w W3 := hb0.trans (grown_under (grown_trans (grown_trans g1 g2) g3) (by simp; omega) (by omega))
    have hgq : w.heap.size + 1 ≠ w.heap.size := by omega
    have hqg : w.heap.size ≠ w.heap.size + 1 := by omega
    clear h2 k2 bq2 hms g1 g2 g3 hb0
    obtain ⟨cc0, cc1, cc2, cz0, cz1, cz2, cl⟩ := k3.cells
    obtain ⟨b0, hb0⟩ : ∃ q, (((fl0.or fl1).or (dNum fs 1).2).or flb7).bad = q := ⟨_, rfl⟩
    rw [hb0] at cc0
    have HB0 := Lib.hid hb0
    have K3 := Lib.hid k3
    have BQ3 := Lib.hid bq3
    clear hb0 k3 bq3
    go_upto_region 7 with fail
    go_cut [] (fun wx => wx = W3.setCell ⟨w.heap.size + 1, 0, none⟩ (.bool (b0 || !is)))
    case first =>
      cases b0 <;> cases is
      all_goals
        go_wp2
        go_meet
        case rel => simp
    case rest =>
      have k4 := K3.out.or0 (!is) (b := (b0 || !is)) (by rw [HB0.out])
      have bq4 := BQ3.out.far (p := ⟨w.heap.size + 1, 0, none⟩) hqg (.bool (b0 || !is))
      have h4 := h3.setCell (p := ⟨w.heap.size + 1, 0, none⟩) (fun h => by have h1 : _ ≤ w.heap.size + 1 := h.1; simp at h1; omega) (.bool (b0 || !is))
      have hbd4 := hbd.setCell (p := ⟨w.heap.size + 1, 0, none⟩) (fun h => by have h1 : W2.heap.size ≤ w.heap.size + 1 := h.1; omega) (.bool (b0 || !is))
      have hb4 : Below w.heap.size w (W3.setCell ⟨w.heap.size + 1, 0, none⟩ (.bool (b0 || !is))) := hb3.setCell (p := ⟨w.heap.size + 1, 0, none⟩) (by show w.heap.size ≤ w.heap.size + 1; omega) _
      have hz4 : (W3.setCell ⟨w.heap.size + 1, 0, none⟩ (.bool (b0 || !is))).heap.size = W3.heap.size := by simp [World.setCell]
      rw [← hcut] at k4 bq4 h4 hbd4 hb4 hz4
      clear hcut h3 hbd hb3 cc0 cc1 cc2 cz0 cz1 cz2
      obtain ⟨W4, hW4⟩ : ∃ W, W = wc := ⟨_, rfl⟩
      subst hW4
      obtain ⟨Ab, cb, rfl, -⟩ := Held.leaves hbd4
      have HDB : Hid (dModel b = ((dModL fs).1, fl1.or (dModL fs).2)) := Lib.hid (by unfold dModel; rw [HFS.out])
      obtain ⟨⟨gm, flg⟩, hgm⟩ : ∃ r, dGraph bd = r := ⟨_, rfl⟩
      have HGM := Lib.hid hgm
      go_wp2_with fail
      refine Calls.mono (graph_any k4 hbd4) ?_
      rintro e W5 ⟨x, u5, himp, rfl, hmo, k5, g5⟩
      rw [hgm] at himp k5
      dsimp only at himp k5
      have bq5 := bq4.grown g5 (by simp)
      have h5 := h4.rd (g := w.heap.size + 1) (fun h => by have := h.1; simp at this; omega) g5
      have hb5 := hb4.trans (grown_under g5 hb4.size (by omega))
      have hz5 := g5.size
      obtain ⟨M1, m1, e1, M2, m2, e2, M3, m3, e3, M4, m4, e4, rfl, f1, f2, f3, f4⟩ := hmo
      have HIM := Lib.hid himp
      clear himp hgm k4 bq4 h4 hbd4 hb4 g5
      obtain ⟨⟨ft, flf⟩, hft⟩ : ∃ r, dFits fs = r := ⟨_, rfl⟩
      have HFT := Lib.hid hft
      go_wp2_with fail
      refine Calls.mono (fits_any (k5.alloc _) (h5.alloc _) hsm) ?_
      rintro e W6 ⟨rfl, k6, g6⟩
      rw [hft] at k6
      rw [hft]
      dsimp only at k6
      dsimp only
      have bp6 := (Blk.new W5 26 #[.int .i64 x.opset.toInt, .string ⟨x.name.toArray⟩, .slice M1 m1 e1, .slice M2 m2 e2, .slice M3 m3 e3, .slice M4 m4 e4]).grown g6 (by simp; omega)
      have bq6 := (bq5.alloc (.cells #[.int .i64 x.opset.toInt, .string ⟨x.name.toArray⟩, .slice M1 m1 e1, .slice M2 m2 e2, .slice M3 m3 e3, .slice M4 m4 e4] 26)).grown g6 (by simp)
      have hng : ¬ Inb W4.heap.size W5.heap.size (w.heap.size + 1) := fun h => by have := h.1; omega
      have d1 := (f1.alloc (.cells #[.int .i64 x.opset.toInt, .string ⟨x.name.toArray⟩, .slice M1 m1 e1, .slice M2 m2 e2, .slice M3 m3 e3, .slice M4 m4 e4] 26)).rd hng g6
      have d2 := (f2.alloc (.cells #[.int .i64 x.opset.toInt, .string ⟨x.name.toArray⟩, .slice M1 m1 e1, .slice M2 m2 e2, .slice M3 m3 e3, .slice M4 m4 e4] 26)).rd hng g6
      have d3 := (f3.alloc (.cells #[.int .i64 x.opset.toInt, .string ⟨x.name.toArray⟩, .slice M1 m1 e1, .slice M2 m2 e2, .slice M3 m3 e3, .slice M4 m4 e4] 26)).rd hng g6
      have d4 := (f4.alloc (.cells #[.int .i64 x.opset.toInt, .string ⟨x.name.toArray⟩, .slice M1 m1 e1, .slice M2 m2 e2, .slice M3 m3 e3, .slice M4 m4 e4] 26)).rd hng g6
      have hb6 := (hb5.alloc hb5.size (.cells #[.int .i64 x.opset.toInt, .string ⟨x.name.toArray⟩, .slice M1 m1 e1, .slice M2 m2 e2, .slice M3 m3 e3, .slice M4 m4 e4] 26)).trans (grown_under g6 (by have := hb5.size; simp; omega) (by omega))
      have hz6 := g6.size
      simp at hz6
      have hpg : W5.heap.size ≠ w.heap.size + 1 := by omega
      have hgp : w.heap.size + 1 ≠ W5.heap.size := by omega
      have hpq : W5.heap.size ≠ w.heap.size := by omega
      have hqp : w.heap.size ≠ W5.heap.size := by omega
      clear f1 f2 f3 f4 hft k5 bq5 h5 hb5 g6
      obtain ⟨cc0, cc1, cc2, cz0, cz1, cz2, cl6⟩ := k6.cells
      obtain ⟨s1, hs1⟩ : ∃ q, ((((((fl0.or fl1).or (dNum fs 1).2).or flb7).or (flb (!is))).or flg).or flf).strange = q := ⟨_, rfl⟩
      rw [hs1] at cc1
      have HS1 := Lib.hid hs1
      clear hs1
      go_upto_region 10 with fail
      go_cut [] (fun wx => wx = W6.setCell ⟨w.heap.size + 1, 1, none⟩ (.bool (s1 || !ft)))
      case first =>
        cases s1 <;> cases ft
        all_goals
          go_wp2
          go_meet
          case rel => simp
      case rest =>
        have k7 := k6.or1 (!ft) (b := (s1 || !ft)) (by rw [HS1.out])
        have bq7 := bq6.far (p := ⟨w.heap.size + 1, 1, none⟩) hqg (.bool (s1 || !ft))
        have bp7 := bp6.far (p := ⟨w.heap.size + 1, 1, none⟩) hpg (.bool (s1 || !ft))
        have d1' := d1.setCell (p := ⟨w.heap.size + 1, 1, none⟩) hng (.bool (s1 || !ft))
        have d2' := d2.setCell (p := ⟨w.heap.size + 1, 1, none⟩) hng (.bool (s1 || !ft))
        have d3' := d3.setCell (p := ⟨w.heap.size + 1, 1, none⟩) hng (.bool (s1 || !ft))
        have d4' := d4.setCell (p := ⟨w.heap.size + 1, 1, none⟩) hng (.bool (s1 || !ft))
        have hb7 := hb6.setCell (p := ⟨w.heap.size + 1, 1, none⟩) (by show w.heap.size ≤ w.heap.size + 1; omega) (.bool (s1 || !ft))
        have hz7 : (W6.setCell ⟨w.heap.size + 1, 1, none⟩ (.bool (s1 || !ft))).heap.size = W6.heap.size := by simp [World.setCell]
        rw [← hcut] at k7 bq7 bp7 d1' d2' d3' d4' hb7 hz7
        clear hcut k6 bq6 bp6 d1 d2 d3 d4 hb6 cc0 cc1 cc2 cz0 cz1 cz2 cl6
        obtain ⟨W7, hW7⟩ : ∃ W, W = wc := ⟨_, rfl⟩
        subst hW7
        have he : (((((((fl0.or fl1).or (dNum fs 1).2).or flb7).or (flb (!is))).or flg).or flf).or ⟨false, !ft, false⟩) = (dModel b).2 := by
          rw [HDB.out]
          unfold dModL
          rw [HMS.out]
          dsimp only
          rw [HGM.out, HFT.out]
          dsimp only
          rw [show fl0.or fl1 = fl1 from Fl.zero_or _]
          ac_rfl
        have hg1 : (dModel b).1 = gm := by
          rw [HDB.out]
          unfold dModL
          rw [HMS.out]
          dsimp only
          rw [HGM.out]
        rw [he] at k7
        have HIX : Hid ((dModel b).2.bad = false → x = (dModel b).1) := Lib.hid (fun h => by
          rw [hg1]
          refine HIM.out ?_
          rw [← he] at h
          exact bad_left (bad_left h))
        clear he hg1 HIM
        obtain ⟨cc0, cc1, cc2, cz0, cz1, cz2, cl7⟩ := k7.cells
        obtain ⟨x0, x1, x2, x3, x4, x5, y0, y1, y2, y3, y4, y5, lq7⟩ := blkc6 bq7
        obtain ⟨v0, v1, v2, v3, v4, v5, r0, r1, r2, r3, r4, r5, lp7⟩ := blkc6 bp7
        obtain ⟨b0', h0⟩ : ∃ q, (dModel b).2.bad = q := ⟨_, rfl⟩
        obtain ⟨b1', h1⟩ : ∃ q, (dModel b).2.strange = q := ⟨_, rfl⟩
        obtain ⟨b2', h2'⟩ : ∃ q, (dModel b).2.many = q := ⟨_, rfl⟩
        rw [h0] at cc0
        rw [h1] at cc1
        rw [h2'] at cc2
        have H0 := Lib.hid h0
        have H1 := Lib.hid h1
        have H2 := Lib.hid h2'
        have HBQ := Lib.hid bq7
        have HB7 := Lib.hid hb7
        have D1 := Lib.hid d1'
        have D2 := Lib.hid d2'
        have D3 := Lib.hid d3'
        have D4 := Lib.hid d4'
        have hz47 : W4.heap.size ≤ W7.heap.size := by omega
        clear h0 h1 h2' bq7 bp7 d1' d2' d3' d4' hb7 k7
        have hfin : ∀ c0 c1 c2 c3 c4 c5, Below w.heap.size w (fin6 W7 w.heap.size c0 c1 c2 c3 c4 c5) := fun c0 c1 c2 c3 c4 c5 =>
          (((((HB7.out.setCell (p := ⟨w.heap.size, 0, none⟩) (Nat.le_refl _) c0).setCell (p := ⟨w.heap.size, 1, none⟩) (Nat.le_refl _) c1).setCell (p := ⟨w.heap.size, 2, none⟩) (Nat.le_refl _) c2).setCell (p := ⟨w.heap.size, 3, none⟩) (Nat.le_refl _) c3).setCell (p := ⟨w.heap.size, 4, none⟩) (Nat.le_refl _) c4).setCell (p := ⟨w.heap.size, 5, none⟩) (Nat.le_refl _) c5
        have HFIN := Lib.hid hfin
        clear hfin
        have hw : b0' = true ∨ (b0' = false ∧ b1' = true) ∨ (b0' = false ∧ b1' = false ∧ b2' = true) ∨ (b0' = false ∧ b1' = false ∧ b2' = false) := by cases b0' <;> cases b1' <;> cases b2' <;> simp
        rcases hw with rfl | ⟨rfl, rfl⟩ | ⟨rfl, rfl, rfl⟩ | ⟨rfl, rfl, rfl⟩
        · have HE : Hid (decM b = (mo0, 6)) := Lib.hid (by rw [HDM.out]; unfold errP; rw [H0.out]; rfl)
          go_wp2
          refine bodyPost_ret (dec_out _ _ w.heap.size _ _ _ _ _ _ _ rfl rfl (HBQ.out.fin6 _ _ _ _ _ _)) rfl ?_
          rw [HE.out]
          exact ⟨_, rfl, MoV.zero _ _, HFIN.out _ _ _ _ _ _⟩
        · have HE : Hid (decM b = (mo0, 7)) := Lib.hid (by rw [HDM.out]; unfold errP; rw [H0.out, H1.out]; rfl)
          go_wp2
          refine bodyPost_ret (dec_out _ _ w.heap.size _ _ _ _ _ _ _ rfl rfl (HBQ.out.fin6 _ _ _ _ _ _)) rfl ?_
          rw [HE.out]
          exact ⟨_, rfl, MoV.zero _ _, HFIN.out _ _ _ _ _ _⟩
        · have HE : Hid (decM b = (mo0, 8)) := Lib.hid (by rw [HDM.out]; unfold errP; rw [H0.out, H1.out, H2.out]; rfl)
          go_wp2
          refine bodyPost_ret (dec_out _ _ w.heap.size _ _ _ _ _ _ _ rfl rfl (HBQ.out.fin6 _ _ _ _ _ _)) rfl ?_
          rw [HE.out]
          exact ⟨_, rfl, MoV.zero _ _, HFIN.out _ _ _ _ _ _⟩
        · have HE : Hid (decM b = (x, 0)) := Lib.hid (by rw [HDM.out, HIX.out H0.out]; unfold errP; rw [H0.out, H1.out, H2.out]; rfl)
          have hnq : ¬ Inb W4.heap.size W5.heap.size w.heap.size := fun h => by have := h.1; omega
          go_wp2
          refine bodyPost_ret (dec_out _ _ w.heap.size _ _ _ _ _ _ _ rfl rfl (HBQ.out.fin6 _ _ _ _ _ _)) rfl ?_
          rw [HE.out]
          exact ⟨_, rfl, ⟨_, _, _, _, _, _, _, _, _, _, _, _, rfl, (D1.out.fin6o hnq).lt.mono fun b hb => ⟨by have := hb.1.1; omega, hb.2⟩, (D2.out.fin6o hnq).lt.mono fun b hb => ⟨by have := hb.1.1; omega, hb.2⟩, (D3.out.fin6o hnq).lt.mono fun b hb => ⟨by have := hb.1.1; omega, hb.2⟩, (D4.out.fin6o hnq).lt.mono fun b hb => ⟨by have := hb.1.1; omega, hb.2⟩⟩, HFIN.out _ _ _ _ _ _⟩
end Go.Proofs.YtlhpmlknmgocoaaGreat
