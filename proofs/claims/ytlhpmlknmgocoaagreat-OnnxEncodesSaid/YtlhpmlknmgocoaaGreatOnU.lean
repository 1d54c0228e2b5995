/- The reader's list of attributes. -/
import Derived.Test.YtlhpmlknmgocoaaGreatOnS
namespace Go.Proofs.YtlhpmlknmgocoaaGreat
set_option linter.unusedSimpArgs false
set_option linter.unusedVariables false
open Go.RowKit
theorem info_Att : (Tryz.prog.info? 98).map (fun i => (i.zero, i.size, i.bytes)) = some (some (.agg #[.string ⟨#[]⟩, .int .i64 0, .int .u32 0, .int .i64 0, .string ⟨#[]⟩, .int .i64 0, .slice none 0 0, .slice none 0 0, .slice none 0 0, .slice none 0 0, .slice none 0 0, .slice none 0 0]), 12, 208) := by kernel_rfl
section
variable {g : Nat} {f : Fl} {S : Nat → Prop} {v : Value} {w : World}

def LAttrel (B : Nat) (W1 : World) (g : Nat) (f : Fl) (gs : List Fld) (out i : Value) (wr : World) : Prop :=
  ∃ (k : Nat) (xs : List Atr), k ≤ gs.length ∧ i = .int .i64 (k : Int) ∧ HRow wr B 98 12 out k (xs.flatMap datA) ∧ xs.length = k ∧ Hid ((f.or ((Fl.all ((gs.take k).map fun a => (dAttr a.data).2)).or (flb ((gs.take k).any fun a => !decide (a.wire = 2))))).bad = false → xs = (gs.take k).map fun a => (dAttr a.data).1) ∧ Hid (∀ q, out.ownBlock = some q → W1.heap.size ≤ q) ∧
    RdB wr g (f.or ((Fl.all ((gs.take k).map fun a => (dAttr a.data).2)).or (flb ((gs.take k).any fun a => !decide (a.wire = 2))))) ∧ W1.grownBy wr (some g)
set_option maxRecDepth 100000 in
set_option maxHeartbeats 1600000 in
theorem list_Att {fs : List Fld} (num : Int) (most : Nat) (hk : RdB w g f) (hv : Held w S (datFs fs) v) (hm : Sm fs) :
    Calls Tryz.prog 89 #[.pointer (some ⟨g, 0, none⟩), v, .int .i64 num, .int .i64 most, .func (.func 90) #[.pointer (some ⟨g, 0, none⟩)] #[]] w (RdL w g f 12 datA (dList dAttr fs num most)) := by
  obtain ⟨A, c, rfl, h2, h3, h4⟩ := hv.rf
  obtain ⟨gs, hgs⟩ : ∃ gs, sel num fs = gs := ⟨_, rfl⟩
  have HD : Hid ((dList dAttr fs num most).1 = gs.map (fun a => (dAttr a.data).1) ∧ (dList dAttr fs num most).2 = ((Fl.all (gs.map fun a => (dAttr a.data).2)).or (flb (gs.any fun a => !decide (a.wire = 2)))).or ⟨false, false, decide (most < gs.length)⟩) := Lib.hid (by rw [← hgs]; exact ⟨rfl, rfl⟩)
  have hgl : gs.length ≤ 4194304 := by rw [← hgs]; have := sel_len num fs; have := hm.1; omega
  have hgd : ∀ j (hj : j < gs.length), gs[j].data.length ≤ 4194304 := by
    intro j hj
    have h5 := data_bulk hj
    have h6 := bulk_sel num fs
    have h7 := hm.2.1
    rw [hgs] at h6
    omega
  have HC := Lib.hid (all_any A c fs num w (by have := hm.1; omega) (by have := hm.2.1; omega) h4)
  rw [hgs] at HC
  clear hv hgs h2 h3 h4 hm
  generalize fs.length = n at *
  go_enter Tryz.func89, Tryz.ntmps89
  go_wp2_with fail
  refine HC.out.mono ?_
  rintro e w1 ⟨u, rfl, ho, hb⟩
  have HF := Lib.hid (ho.held (by omega) fun i hi => by have := hgd i hi; omega)
  obtain ⟨A1, c1, rfl, -⟩ := ho.form
  have HB := Lib.hid hb
  have hk1 := hk.past hb
  have hlt := hk.lt
  have hsz := hb.size
  clear hb ho
  go_wp2
  go_loopw [11, 18] (fun out i wr => LAttrel w.heap.size w1 g f gs out i wr) (fun _ i _ => gs.length - (intOf i).toNat)
  case atStart => exact ⟨0, [], Nat.zero_le _, rfl, HRow.nil _ _ _ _, rfl, Lib.hid (fun _ => rfl), Lib.hid (fun q h => by cases h), hk1.to (by simp [Fl.all, Fl.or, flb]), grown_past (Below.refl _ _) _⟩
  case round =>
    obtain ⟨k, xs, hk', rfl, hrow, hxl, himp0, hob, hkr, hgr⟩ := hrel
    have HXL := Lib.hid hxl
    clear hxl
    have hz := hgr.size
    have HK := Lib.hid hkr
    have HR := Lib.hid hrow
    obtain ⟨out1, out2, rfl, -⟩ := hrow.form
    by_cases hlt' : k < gs.length
    · have hfd := HF.out.rd (g := g) (fun h => by have := h.1; omega) hgr
      obtain ⟨b, off, Ad, cd, rfl, hbb, a0, a1, a2, a3, hdat⟩ := hfd.fld_at hlt'
      have hlen := hgd k hlt'
      have HT1 := Lib.hid (show (gs.take (k + 1)).map (fun a => (dAttr a.data).1) = (gs.take k).map (fun a => (dAttr a.data).1) ++ [(dAttr gs[k].data).1] by rw [List.take_succ_eq_append_getElem hlt', List.map_append]; rfl)
      have HT2 := Lib.hid (list_fl (fun l => (dAttr l).2) hlt')
      have HDT := Lib.hid hdat
      have HW := Lib.hid hkr
      obtain ⟨F, hF⟩ : ∃ F, f.or ((Fl.all ((gs.take k).map fun a => (dAttr a.data).2)).or (flb ((gs.take k).any fun a => !decide (a.wire = 2)))) = F := ⟨_, rfl⟩
      have HFF := Lib.hid hF
      rw [hF] at hkr HK himp0
      obtain ⟨k0, k1, k2, z0, z1, z2, hgw⟩ := hkr.cells
      obtain ⟨q, hq⟩ : ∃ q, F.bad = q := ⟨_, rfl⟩
      rw [hq] at k0
      have HQ := Lib.hid hq
      have hSg : ¬ Inb w.heap.size w1.heap.size g := fun h => by have := h.1; omega
      clear hkr hfd hdat hrow hq hF HW
      generalize gs[k] = a at *
      obtain ⟨anum, awire, ax, adata⟩ := a
      dsimp only at *
      have HLN : Hid (adata.length ≤ 4194304) := Lib.hid hlen
      generalize hdl : adata.length = alen at *
      have hways : q = true ∨ (q = false ∧ awire = 2) ∨ (q = false ∧ ¬ awire = 2) := by cases q <;> simp; omega
      have HDL := Lib.hid hdl
      clear hdl
      have hwe : awire = 2 → (awire != 2) = false := by intro h; simp [h]
      have hwne : ¬ awire = 2 → (awire != 2) = true := by intro h; simp [h]
      rcases hways with rfl | ⟨rfl, hw2⟩ | ⟨rfl, hw2⟩
      all_goals
        try (have hwe := hwe hw2)
        try (have hwne := hwne hw2)
        try (have HW2 := Lib.hid hw2)
        try (clear hw2)
        go_wp2_with fail
        refine Calls.mono (attr_any ((HK.out.or0 (!decide (awire = 2)) (by rw [HQ.out]; first | (simp; done) | (simp; exact HW2.out))).alloc _) ((HDT.out.setCell (p := ⟨g, 0, none⟩) hSg _).alloc _)) ?_
        rintro e' w3 ⟨x9, A1, n1, c1, A2, n2, c2, A3, n3, c3, A4, n4, c4, A5, n5, c5, A6, n6, c6, himp, rfl, e1, e2, e3, e4, e5, e6, hk3, hg3⟩
        skip
        have HIM := Lib.hid himp
        clear himp
        have G3 : Hid (wr.grownBy w3 (some g)) := Lib.hid (grown_trans (grown_trans (grown_set _ _ _ _) (grown_alloc _ _)) hg3)
        have HR3 := Lib.hid (HR.out.grown G3.out (fun q hq => by injection hq with hq; omega))
        have hz3 := G3.out.size
        go_wp2_with (at_builtin
                     go_must (refine append_dat 46 98 (.agg #[.string ⟨#[]⟩, .int .i64 0, .int .u32 0, .int .i64 0, .string ⟨#[]⟩, .int .i64 0, .slice none 0 0, .slice none 0 0, .slice none 0 0, .slice none 0 0, .slice none 0 0, .slice none 0 0]) 12 208 (by kernel_rfl) info_Att rfl (by decide) rfl _ _ rfl HR3.out rfl rfl rfl (datA x9) [.string ⟨x9.name.toArray⟩, .int .i64 x9.kind.toInt, .int .u32 (x9.f.toNat : Int), .int .i64 x9.i.toInt, .string ⟨x9.s.toArray⟩, .int .i64 x9.t.ty.toInt, .slice A1 n1 c1, .slice A2 n2 c2, .slice A3 n3 c3, .slice A4 n4 c4, .slice A5 n5 c5, .slice A6 n6 c6] rfl rfl (by simp [Value.oneCell', strV]) (HL.get (.cons (.leaf _) (.cons (.leaf _) (.cons (.leaf _) (.cons (.leaf _) (.cons (.leaf _) (.cons (.leaf _) (.cons ((HRow.fresh (HR.out.grown (grown_trans (grown_set _ _ _ _) (grown_alloc _ _)) (fun q hq => by injection hq with hq; omega)) (by simp [World.setCell]; omega) e1)) (.cons ((HRow.fresh (HR.out.grown (grown_trans (grown_set _ _ _ _) (grown_alloc _ _)) (fun q hq => by injection hq with hq; omega)) (by simp [World.setCell]; omega) e2)) (.cons ((HRow.fresh (HR.out.grown (grown_trans (grown_set _ _ _ _) (grown_alloc _ _)) (fun q hq => by injection hq with hq; omega)) (by simp [World.setCell]; omega) e3)) (.cons ((HRow.fresh (HR.out.grown (grown_trans (grown_set _ _ _ _) (grown_alloc _ _)) (fun q hq => by injection hq with hq; omega)) (by simp [World.setCell]; omega) e4)) (.cons ((HRow.fresh (HR.out.grown (grown_trans (grown_set _ _ _ _) (grown_alloc _ _)) (fun q hq => by injection hq with hq; omega)) (by simp [World.setCell]; omega) e5)) (.cons ((HRow.fresh (HR.out.grown (grown_trans (grown_set _ _ _ _) (grown_alloc _ _)) (fun q hq => by injection hq with hq; omega)) (by simp [World.setCell]; omega) e6)) .nil))))))))))))) (by omega) (by unfold maxLen; omega) (by omega) ?_; intro v2 w4 ho2 hg4 ha2))
        go_roundw
        case rel => exact ⟨k + 1, xs ++ [x9], hlt', by go_num, by rw [List.flatMap_append, List.flatMap_cons, List.flatMap_nil, List.append_nil]; exact ho2, by simp [HXL.out], Lib.hid (fun h => by
          rw [HT2.out, ← Fl.or_assoc, ← Fl.or_assoc, HFF.out] at h
          rw [HT1.out, himp0.out (bad_left (bad_left h)), HIM.out h]), Lib.hid (fun q h => by
          rcases ha2 with ha2 | ⟨q', ha2, hq'⟩
          · exact hob.out q (ha2 ▸ h)
          · rw [ha2] at h; injection h with h; omega), (hk3.row HR3.out (by omega) hg4).to (by rw [← HFF.out, HT2.out]; simp only [Fl.or_assoc]), grown_own (grown_trans hgr G3.out) hg4 (fun q hq => hob.out q hq)⟩
        case measure => simp [intOf]; omega
    · have hke : k = gs.length := by omega
      obtain ⟨k0, k1, k2, z0, z1, z2, hgw⟩ := hkr.cells
      obtain ⟨q, hq⟩ : ∃ q, (f.or ((Fl.all ((gs.take k).map fun a => (dAttr a.data).2)).or (flb ((gs.take k).any fun a => !decide (a.wire = 2))))).many = q := ⟨_, rfl⟩
      rw [hq] at k2
      have HQ := Lib.hid hq
      have HKE := Lib.hid hke
      clear hrow hkr hq hke
      cases q
      all_goals
        by_cases hlong : most < k
        all_goals
          go_wp2
          go_ret
          have e1 : gs.take k = gs := by rw [HKE.out, List.take_length]
          have h9 := HK.out.or2 (decide (most < gs.length)) (b := decide (most < k) || (f.or ((Fl.all ((gs.take k).map fun a => (dAttr a.data).2)).or (flb ((gs.take k).any fun a => !decide (a.wire = 2))))).many) (by rw [HKE.out, Bool.or_comm])
          rw [HQ.out] at h9
          simp only [hlong, decide_true, decide_false, Bool.or_true, Bool.or_false, Bool.true_or, Bool.false_or] at h9
          have h8 := HR.out
          have h7 := himp0.out
          rw [e1] at h9 h7
          unfold RdL
          rw [HD.out.2, HD.out.1]
          refine ⟨xs, _, rfl, (fun h => h7 (by rw [← Fl.or_assoc] at h; exact bad_left h)), by rw [HXL.out, List.length_map]; exact HKE.out, ?_, ?_, grown_trans (grown_trans (grown_past HB.out _) hgr) (grown_set _ _ _ _)⟩
          · refine ((h8.held (by omega)).setCell (p := ⟨g, 2, none⟩) (fun h => by have h11 : w.heap.size ≤ g := h.1; omega) _).mono fun b hb => ⟨?_, ?_⟩
            · have := hb.1; omega
            · have := hb.2; simpa [World.setCell] using this
          · exact h9.to (by simp only [Fl.or_assoc])
end
end Go.Proofs.YtlhpmlknmgocoaaGreat
