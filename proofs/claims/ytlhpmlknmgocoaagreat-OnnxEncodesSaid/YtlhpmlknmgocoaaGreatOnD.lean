/- The reader's lists of plain elements. -/
import Derived.Test.YtlhpmlknmgocoaaGreatOnC
namespace Go.Proofs.YtlhpmlknmgocoaaGreat
set_option linter.unusedSimpArgs false
set_option linter.unusedVariables false
open Go.RowKit
theorem info_Str : (Tryz.prog.info? 9).map (fun i => (i.zero, i.size, i.bytes)) = some (some (.string ⟨#[]⟩), 1, 16) := by kernel_rfl
theorem info_Byt : (Tryz.prog.info? 28).map (fun i => (i.zero, i.size, i.bytes)) = some (some (.slice none 0 0), 1, 24) := by kernel_rfl
theorem info_Int : (Tryz.prog.info? 3).map (fun i => (i.zero, i.size, i.bytes)) = some (some (.int .i64 0), 1, 8) := by kernel_rfl
theorem info_Int2 : (Tryz.prog.info? 3).map (fun i => (i.zero, i.size, i.bytes)) = some (some (.int .i64 0), 1, 8) := by kernel_rfl
section
variable {g : Nat} {f : Fl} {S : Nat → Prop} {v : Value} {w : World}

def LStrrel (B : Nat) (W1 : World) (g : Nat) (f : Fl) (gs : List Fld) (out i : Value) (wr : World) : Prop :=
  ∃ k : Nat, k ≤ gs.length ∧ i = .int .i64 (k : Int) ∧ HRow wr B 9 1 out k ((gs.take k).flatMap fun a => [lfS (dName1 a.data).1]) ∧ Hid (∀ q, out.ownBlock = some q → W1.heap.size ≤ q) ∧
    RdB wr g (f.or ((Fl.all ((gs.take k).map fun a => (dName1 a.data).2)).or (flb ((gs.take k).any fun a => !decide (a.wire = 2))))) ∧ W1.grownBy wr (some g)
set_option maxRecDepth 100000 in
set_option maxHeartbeats 1600000 in
theorem list_Str {fs : List Fld} (num : Int) (most : Nat) (hk : RdB w g f) (hv : Held w S (datFs fs) v) (hm : Sm fs) {p : Nat} (hpg : p ≠ g) (hp : w.cell? ⟨p, 0, none⟩ = some (.pointer (some ⟨g, 0, none⟩))) :
    Calls Tryz.prog 103 #[.pointer (some ⟨g, 0, none⟩), v, .int .i64 num, .int .i64 most, .func (.func 104) #[] #[.pointer (some ⟨p, 0, none⟩)]] w (Rd w g f (.row 1 ((dList dName1 fs num most).1.flatMap fun x => [lfS x])) (dList dName1 fs num most).2) := by
  obtain ⟨A, c, rfl, h2, h3, h4⟩ := hv.rf
  obtain ⟨gs, hgs⟩ : ∃ gs, sel num fs = gs := ⟨_, rfl⟩
  have HD : Hid ((dList dName1 fs num most).1 = gs.map (fun a => (dName1 a.data).1) ∧ (dList dName1 fs num most).2 = ((Fl.all (gs.map fun a => (dName1 a.data).2)).or (flb (gs.any fun a => !decide (a.wire = 2)))).or ⟨false, false, decide (most < gs.length)⟩) := Lib.hid (by rw [← hgs]; exact ⟨rfl, rfl⟩)
  have HE : Hid (((dList dName1 fs num most).1.flatMap fun x => [lfS x]) = gs.flatMap fun a => [lfS (dName1 a.data).1]) := Lib.hid (by rw [HD.out.1, List.flatMap_map])
  have hgl : gs.length ≤ 4194304 := by rw [← hgs]; have := sel_len num fs; have := hm.1; omega
  have hgd : ∀ j (hj : j < gs.length), gs[j].data.length ≤ 4194304 := by
    intro j hj
    have h5 := data_bulk hj
    have h6 := bulk_sel num fs
    have h7 := hm.2.1
    rw [hgs] at h6
    omega
  have HC := Lib.hid (all_any A c fs num w (by have := hm.1; omega) (by have := hm.2.1; omega) h4)
  rw [hgs] at HC
  clear hv hgs h2 h3 h4 hm
  generalize fs.length = n at *
  go_enter Tryz.func103, Tryz.ntmps103
  go_wp2_with fail
  refine HC.out.mono ?_
  rintro e w1 ⟨u, rfl, ho, hb⟩
  have HF := Lib.hid (ho.held (by omega) fun i hi => by have := hgd i hi; omega)
  obtain ⟨A1, c1, rfl, -⟩ := ho.form
  have HB := Lib.hid hb
  have hk1 := hk.past hb
  have hlt := hk.lt
  have hsz := hb.size
  clear hb ho
  go_wp2
  go_loopw [11, 18] (fun out i wr => LStrrel w.heap.size w1 g f gs out i wr) (fun _ i _ => gs.length - (intOf i).toNat)
  case atStart => exact ⟨0, Nat.zero_le _, rfl, HRow.nil _ _ _ _, Lib.hid (fun q h => by cases h), hk1.to (by simp [Fl.all, Fl.or, flb]), grown_past (Below.refl _ _) _⟩
  case round =>
    obtain ⟨k, hk', rfl, hrow, hob, hkr, hgr⟩ := hrel
    have hz := hgr.size
    have HK := Lib.hid hkr
    have HR := Lib.hid hrow
    obtain ⟨out1, out2, rfl, -⟩ := hrow.form
    by_cases hlt' : k < gs.length
    · have hfd := HF.out.rd (g := g) (fun h => by have := h.1; omega) hgr
      obtain ⟨b, off, Ad, cd, rfl, hbb, a0, a1, a2, a3, hdat⟩ := hfd.fld_at hlt'
      have hlen := hgd k hlt'
      have HT1 := Lib.hid (list_dat (fun a => [lfS (dName1 a.data).1]) hlt')
      have HT2 := Lib.hid (list_fl (fun l => (dName1 l).2) hlt')
      have HDT := Lib.hid hdat
      have HW := Lib.hid hkr
      obtain ⟨F, hF⟩ : ∃ F, f.or ((Fl.all ((gs.take k).map fun a => (dName1 a.data).2)).or (flb ((gs.take k).any fun a => !decide (a.wire = 2)))) = F := ⟨_, rfl⟩
      have HFF := Lib.hid hF
      rw [hF] at hkr HK
      obtain ⟨k0, k1, k2, z0, z1, z2, hgw⟩ := hkr.cells
      obtain ⟨q, hq⟩ : ∃ q, F.bad = q := ⟨_, rfl⟩
      rw [hq] at k0
      have HQ := Lib.hid hq
      have hSg : ¬ Inb w.heap.size w1.heap.size g := fun h => by have := h.1; omega
      clear hkr hfd hdat hrow hq hF HW
      generalize gs[k] = a at *
      obtain ⟨anum, awire, ax, adata⟩ := a
      dsimp only at *
      have HLN : Hid (adata.length ≤ 4194304) := Lib.hid hlen
      generalize hdl : adata.length = alen at *
      have hways : q = true ∨ (q = false ∧ awire = 2) ∨ (q = false ∧ ¬ awire = 2) := by cases q <;> simp; omega
      have HDL := Lib.hid hdl
      clear hdl
      have hwe : awire = 2 → (awire != 2) = false := by intro h; simp [h]
      have hwne : ¬ awire = 2 → (awire != 2) = true := by intro h; simp [h]
      rcases hways with rfl | ⟨rfl, hw2⟩ | ⟨rfl, hw2⟩
      all_goals
        try (have hwe := hwe hw2)
        try (have hwne := hwne hw2)
        try (have HW2 := Lib.hid hw2)
        try (clear hw2)
        go_wp2_with fail
        refine Calls.mono (names1_any ((HK.out.or0 (!decide (awire = 2)) (by rw [HQ.out]; first | (simp; done) | (simp; exact HW2.out))).alloc _) ((grown_trans (grown_trans (grown_trans (grown_past HB.out _) hgr) (grown_set _ _ _ _)) (grown_alloc _ _)).cell hp (by simpa using hpg)) ((HDT.out.setCell (p := ⟨g, 0, none⟩) hSg _).alloc _) hSg (by have := HLN.out; have := HDL.out; omega)) ?_
        rintro e' w3 ⟨rfl, hk3, hg3⟩
        rw [show strV adata = .string ⟨adata.toArray⟩ from rfl]
        have G3 : Hid (wr.grownBy w3 (some g)) := Lib.hid (grown_trans (grown_trans (grown_set _ _ _ _) (grown_alloc _ _)) hg3)
        have HR3 := Lib.hid (HR.out.grown G3.out (fun q hq => by injection hq with hq; omega))
        have hz3 := G3.out.size
        go_wp2_with (at_builtin
                     go_must (refine append_dat 45 9 (.string ⟨#[]⟩) 1 16 (by kernel_rfl) info_Str rfl (by decide) rfl _ _ rfl HR3.out rfl rfl rfl [lfS adata] [.string ⟨adata.toArray⟩] rfl rfl (by simp [Value.oneCell', strV]) (HL.get (.cons (.leaf _) .nil)) (by omega) (by unfold maxLen; omega) (by omega) ?_; intro v2 w4 ho2 hg4 ha2))
        go_roundw
        case rel => exact ⟨k + 1, hlt', by go_num, by rw [HT1.out]; exact ho2, Lib.hid (fun q h => by
          rcases ha2 with ha2 | ⟨q', ha2, hq'⟩
          · exact hob.out q (ha2 ▸ h)
          · rw [ha2] at h; injection h with h; omega), (hk3.row HR3.out (by omega) hg4).to (by rw [← HFF.out, HT2.out]; simp only [Fl.or_assoc]), grown_own (grown_trans hgr G3.out) hg4 (fun q hq => hob.out q hq)⟩
        case measure => simp [intOf]; omega
    · have hke : k = gs.length := by omega
      obtain ⟨k0, k1, k2, z0, z1, z2, hgw⟩ := hkr.cells
      obtain ⟨q, hq⟩ : ∃ q, (f.or ((Fl.all ((gs.take k).map fun a => (dName1 a.data).2)).or (flb ((gs.take k).any fun a => !decide (a.wire = 2))))).many = q := ⟨_, rfl⟩
      rw [hq] at k2
      have HQ := Lib.hid hq
      have HKE := Lib.hid hke
      clear hrow hkr hq hke
      cases q
      all_goals
        by_cases hlong : most < k
        all_goals
          go_wp2
          go_ret
          have e1 : gs.take k = gs := by rw [HKE.out, List.take_length]
          have h9 := HK.out.or2 (decide (most < gs.length)) (b := decide (most < k) || (f.or ((Fl.all ((gs.take k).map fun a => (dName1 a.data).2)).or (flb ((gs.take k).any fun a => !decide (a.wire = 2))))).many) (by rw [HKE.out, Bool.or_comm])
          rw [HQ.out] at h9
          simp only [hlong, decide_true, decide_false, Bool.or_true, Bool.or_false, Bool.true_or, Bool.false_or] at h9
          have h8 := HR.out
          rw [e1] at h8 h9
          unfold Rd
          rw [HD.out.2]
          refine ⟨_, rfl, ?_, ?_, grown_trans (grown_trans (grown_past HB.out _) hgr) (grown_set _ _ _ _)⟩
          · rw [HE.out]
            refine ((h8.held (by omega)).setCell (p := ⟨g, 2, none⟩) (fun h => by have h11 : w.heap.size ≤ g := h.1; omega) _).mono fun b hb => ⟨?_, ?_⟩
            · have := hb.1; omega
            · have := hb.2; simpa [World.setCell] using this
          · exact h9.to (by simp only [Fl.or_assoc])

def LBytrel (B : Nat) (W1 : World) (g : Nat) (f : Fl) (gs : List Fld) (out i : Value) (wr : World) : Prop :=
  ∃ k : Nat, k ≤ gs.length ∧ i = .int .i64 (k : Int) ∧ HRow wr B 28 1 out k ((gs.take k).flatMap fun a => [datB (dRaw a.data).1]) ∧ Hid (∀ q, out.ownBlock = some q → W1.heap.size ≤ q) ∧
    RdB wr g (f.or ((Fl.all ((gs.take k).map fun a => (dRaw a.data).2)).or (flb ((gs.take k).any fun a => !decide (a.wire = 2))))) ∧ W1.grownBy wr (some g)
set_option maxRecDepth 100000 in
set_option maxHeartbeats 1600000 in
theorem list_Byt {fs : List Fld} (num : Int) (most : Nat) (hk : RdB w g f) (hv : Held w S (datFs fs) v) (hm : Sm fs) :
    Calls Tryz.prog 97 #[.pointer (some ⟨g, 0, none⟩), v, .int .i64 num, .int .i64 most, .func (.func 98) #[] #[]] w (Rd w g f (.row 1 ((dList dRaw fs num most).1.flatMap fun x => [datB x])) (dList dRaw fs num most).2) := by
  obtain ⟨A, c, rfl, h2, h3, h4⟩ := hv.rf
  obtain ⟨gs, hgs⟩ : ∃ gs, sel num fs = gs := ⟨_, rfl⟩
  have HD : Hid ((dList dRaw fs num most).1 = gs.map (fun a => (dRaw a.data).1) ∧ (dList dRaw fs num most).2 = ((Fl.all (gs.map fun a => (dRaw a.data).2)).or (flb (gs.any fun a => !decide (a.wire = 2)))).or ⟨false, false, decide (most < gs.length)⟩) := Lib.hid (by rw [← hgs]; exact ⟨rfl, rfl⟩)
  have HE : Hid (((dList dRaw fs num most).1.flatMap fun x => [datB x]) = gs.flatMap fun a => [datB (dRaw a.data).1]) := Lib.hid (by rw [HD.out.1, List.flatMap_map])
  have hgl : gs.length ≤ 4194304 := by rw [← hgs]; have := sel_len num fs; have := hm.1; omega
  have hgd : ∀ j (hj : j < gs.length), gs[j].data.length ≤ 4194304 := by
    intro j hj
    have h5 := data_bulk hj
    have h6 := bulk_sel num fs
    have h7 := hm.2.1
    rw [hgs] at h6
    omega
  have HC := Lib.hid (all_any A c fs num w (by have := hm.1; omega) (by have := hm.2.1; omega) h4)
  rw [hgs] at HC
  clear hv hgs h2 h3 h4 hm
  generalize fs.length = n at *
  go_enter Tryz.func97, Tryz.ntmps97
  go_wp2_with fail
  refine HC.out.mono ?_
  rintro e w1 ⟨u, rfl, ho, hb⟩
  have HF := Lib.hid (ho.held (by omega) fun i hi => by have := hgd i hi; omega)
  obtain ⟨A1, c1, rfl, -⟩ := ho.form
  have HB := Lib.hid hb
  have hk1 := hk.past hb
  have hlt := hk.lt
  have hsz := hb.size
  clear hb ho
  go_wp2
  go_loopw [11, 18] (fun out i wr => LBytrel w.heap.size w1 g f gs out i wr) (fun _ i _ => gs.length - (intOf i).toNat)
  case atStart => exact ⟨0, Nat.zero_le _, rfl, HRow.nil _ _ _ _, Lib.hid (fun q h => by cases h), hk1.to (by simp [Fl.all, Fl.or, flb]), grown_past (Below.refl _ _) _⟩
  case round =>
    obtain ⟨k, hk', rfl, hrow, hob, hkr, hgr⟩ := hrel
    have hz := hgr.size
    have HK := Lib.hid hkr
    have HR := Lib.hid hrow
    obtain ⟨out1, out2, rfl, -⟩ := hrow.form
    by_cases hlt' : k < gs.length
    · have hfd := HF.out.rd (g := g) (fun h => by have := h.1; omega) hgr
      obtain ⟨b, off, Ad, cd, rfl, hbb, a0, a1, a2, a3, hdat⟩ := hfd.fld_at hlt'
      have hlen := hgd k hlt'
      have HT1 := Lib.hid (list_dat (fun a => [datB (dRaw a.data).1]) hlt')
      have HT2 := Lib.hid (list_fl (fun l => (dRaw l).2) hlt')
      have HDT := Lib.hid hdat
      have HW := Lib.hid hkr
      obtain ⟨F, hF⟩ : ∃ F, f.or ((Fl.all ((gs.take k).map fun a => (dRaw a.data).2)).or (flb ((gs.take k).any fun a => !decide (a.wire = 2)))) = F := ⟨_, rfl⟩
      have HFF := Lib.hid hF
      rw [hF] at hkr HK
      obtain ⟨k0, k1, k2, z0, z1, z2, hgw⟩ := hkr.cells
      obtain ⟨q, hq⟩ : ∃ q, F.bad = q := ⟨_, rfl⟩
      rw [hq] at k0
      have HQ := Lib.hid hq
      have hSg : ¬ Inb w.heap.size w1.heap.size g := fun h => by have := h.1; omega
      clear hkr hfd hdat hrow hq hF HW
      generalize gs[k] = a at *
      obtain ⟨anum, awire, ax, adata⟩ := a
      dsimp only at *
      have HLN : Hid (adata.length ≤ 4194304) := Lib.hid hlen
      generalize hdl : adata.length = alen at *
      have hways : q = true ∨ (q = false ∧ awire = 2) ∨ (q = false ∧ ¬ awire = 2) := by cases q <;> simp; omega
      have HDL := Lib.hid hdl
      clear hdl
      have hwe : awire = 2 → (awire != 2) = false := by intro h; simp [h]
      have hwne : ¬ awire = 2 → (awire != 2) = true := by intro h; simp [h]
      rcases hways with rfl | ⟨rfl, hw2⟩ | ⟨rfl, hw2⟩
      all_goals
        try (have hwe := hwe hw2)
        try (have hwne := hwne hw2)
        try (have HW2 := Lib.hid hw2)
        try (clear hw2)
        go_wp2_with fail
        refine Calls.mono (tensor2_any ((HK.out.or0 (!decide (awire = 2)) (by rw [HQ.out]; first | (simp; done) | (simp; exact HW2.out))).alloc _) adata) ?_
        rintro e' w3 ⟨rfl, hk3, hg3⟩
        skip
        have G3 : Hid (wr.grownBy w3 (some g)) := Lib.hid (grown_trans (grown_trans (grown_set _ _ _ _) (grown_alloc _ _)) hg3)
        have HR3 := Lib.hid (HR.out.grown G3.out (fun q hq => by injection hq with hq; omega))
        have hz3 := G3.out.size
        go_wp2_with (at_builtin
                     go_must (refine append_dat 158 28 (.slice none 0 0) 1 24 (by kernel_rfl) info_Byt rfl (by decide) rfl _ _ rfl HR3.out rfl rfl rfl [datB adata] [.slice Ad alen cd] rfl rfl (by simp [Value.oneCell', strV]) (HL.get (.cons ((HDT.out.rd hSg G3.out).mono fun b hb => ⟨hb.1, by have := hb.2; omega, fun e => by have := hob.out b e; have := hb.2; omega⟩) .nil)) (by omega) (by unfold maxLen; omega) (by omega) ?_; intro v2 w4 ho2 hg4 ha2))
        go_roundw
        case rel => exact ⟨k + 1, hlt', by go_num, by rw [HT1.out]; exact ho2, Lib.hid (fun q h => by
          rcases ha2 with ha2 | ⟨q', ha2, hq'⟩
          · exact hob.out q (ha2 ▸ h)
          · rw [ha2] at h; injection h with h; omega), (hk3.row HR3.out (by omega) hg4).to (by rw [← HFF.out, HT2.out]; simp only [Fl.or_assoc]), grown_own (grown_trans hgr G3.out) hg4 (fun q hq => hob.out q hq)⟩
        case measure => simp [intOf]; omega
    · have hke : k = gs.length := by omega
      obtain ⟨k0, k1, k2, z0, z1, z2, hgw⟩ := hkr.cells
      obtain ⟨q, hq⟩ : ∃ q, (f.or ((Fl.all ((gs.take k).map fun a => (dRaw a.data).2)).or (flb ((gs.take k).any fun a => !decide (a.wire = 2))))).many = q := ⟨_, rfl⟩
      rw [hq] at k2
      have HQ := Lib.hid hq
      have HKE := Lib.hid hke
      clear hrow hkr hq hke
      cases q
      all_goals
        by_cases hlong : most < k
        all_goals
          go_wp2
          go_ret
          have e1 : gs.take k = gs := by rw [HKE.out, List.take_length]
          have h9 := HK.out.or2 (decide (most < gs.length)) (b := decide (most < k) || (f.or ((Fl.all ((gs.take k).map fun a => (dRaw a.data).2)).or (flb ((gs.take k).any fun a => !decide (a.wire = 2))))).many) (by rw [HKE.out, Bool.or_comm])
          rw [HQ.out] at h9
          simp only [hlong, decide_true, decide_false, Bool.or_true, Bool.or_false, Bool.true_or, Bool.false_or] at h9
          have h8 := HR.out
          rw [e1] at h8 h9
          unfold Rd
          rw [HD.out.2]
          refine ⟨_, rfl, ?_, ?_, grown_trans (grown_trans (grown_past HB.out _) hgr) (grown_set _ _ _ _)⟩
          · rw [HE.out]
            refine ((h8.held (by omega)).setCell (p := ⟨g, 2, none⟩) (fun h => by have h11 : w.heap.size ≤ g := h.1; omega) _).mono fun b hb => ⟨?_, ?_⟩
            · have := hb.1; omega
            · have := hb.2; simpa [World.setCell] using this
          · exact h9.to (by simp only [Fl.or_assoc])

def LIntrel (B : Nat) (W1 : World) (g : Nat) (f : Fl) (gs : List Fld) (out i : Value) (wr : World) : Prop :=
  ∃ k : Nat, k ≤ gs.length ∧ i = .int .i64 (k : Int) ∧ HRow wr B 3 1 out k ((gs.take k).flatMap fun a => [lfI (dZero a.data).1]) ∧ Hid (∀ q, out.ownBlock = some q → W1.heap.size ≤ q) ∧
    RdB wr g (f.or ((Fl.all ((gs.take k).map fun a => (dZero a.data).2)).or (flb ((gs.take k).any fun a => !decide (a.wire = 2))))) ∧ W1.grownBy wr (some g)
set_option maxRecDepth 100000 in
set_option maxHeartbeats 1600000 in
theorem list_Int {fs : List Fld} (num : Int) (most : Nat) (hk : RdB w g f) (hv : Held w S (datFs fs) v) (hm : Sm fs) :
    Calls Tryz.prog 72 #[.pointer (some ⟨g, 0, none⟩), v, .int .i64 num, .int .i64 most, .func (.func 95) #[] #[]] w (Rd w g f (.row 1 ((dList dZero fs num most).1.flatMap fun x => [lfI x])) (dList dZero fs num most).2) := by
  obtain ⟨A, c, rfl, h2, h3, h4⟩ := hv.rf
  obtain ⟨gs, hgs⟩ : ∃ gs, sel num fs = gs := ⟨_, rfl⟩
  have HD : Hid ((dList dZero fs num most).1 = gs.map (fun a => (dZero a.data).1) ∧ (dList dZero fs num most).2 = ((Fl.all (gs.map fun a => (dZero a.data).2)).or (flb (gs.any fun a => !decide (a.wire = 2)))).or ⟨false, false, decide (most < gs.length)⟩) := Lib.hid (by rw [← hgs]; exact ⟨rfl, rfl⟩)
  have HE : Hid (((dList dZero fs num most).1.flatMap fun x => [lfI x]) = gs.flatMap fun a => [lfI (dZero a.data).1]) := Lib.hid (by rw [HD.out.1, List.flatMap_map])
  have hgl : gs.length ≤ 4194304 := by rw [← hgs]; have := sel_len num fs; have := hm.1; omega
  have hgd : ∀ j (hj : j < gs.length), gs[j].data.length ≤ 4194304 := by
    intro j hj
    have h5 := data_bulk hj
    have h6 := bulk_sel num fs
    have h7 := hm.2.1
    rw [hgs] at h6
    omega
  have HC := Lib.hid (all_any A c fs num w (by have := hm.1; omega) (by have := hm.2.1; omega) h4)
  rw [hgs] at HC
  clear hv hgs h2 h3 h4 hm
  generalize fs.length = n at *
  go_enter Tryz.func72, Tryz.ntmps72
  go_wp2_with fail
  refine HC.out.mono ?_
  rintro e w1 ⟨u, rfl, ho, hb⟩
  have HF := Lib.hid (ho.held (by omega) fun i hi => by have := hgd i hi; omega)
  obtain ⟨A1, c1, rfl, -⟩ := ho.form
  have HB := Lib.hid hb
  have hk1 := hk.past hb
  have hlt := hk.lt
  have hsz := hb.size
  clear hb ho
  go_wp2
  go_loopw [11, 18] (fun out i wr => LIntrel w.heap.size w1 g f gs out i wr) (fun _ i _ => gs.length - (intOf i).toNat)
  case atStart => exact ⟨0, Nat.zero_le _, rfl, HRow.nil _ _ _ _, Lib.hid (fun q h => by cases h), hk1.to (by simp [Fl.all, Fl.or, flb]), grown_past (Below.refl _ _) _⟩
  case round =>
    obtain ⟨k, hk', rfl, hrow, hob, hkr, hgr⟩ := hrel
    have hz := hgr.size
    have HK := Lib.hid hkr
    have HR := Lib.hid hrow
    obtain ⟨out1, out2, rfl, -⟩ := hrow.form
    by_cases hlt' : k < gs.length
    · have hfd := HF.out.rd (g := g) (fun h => by have := h.1; omega) hgr
      obtain ⟨b, off, Ad, cd, rfl, hbb, a0, a1, a2, a3, hdat⟩ := hfd.fld_at hlt'
      have hlen := hgd k hlt'
      have HT1 := Lib.hid (list_dat (fun a => [lfI (dZero a.data).1]) hlt')
      have HT2 := Lib.hid (list_fl (fun l => (dZero l).2) hlt')
      have HDT := Lib.hid hdat
      have HW := Lib.hid hkr
      obtain ⟨F, hF⟩ : ∃ F, f.or ((Fl.all ((gs.take k).map fun a => (dZero a.data).2)).or (flb ((gs.take k).any fun a => !decide (a.wire = 2)))) = F := ⟨_, rfl⟩
      have HFF := Lib.hid hF
      rw [hF] at hkr HK
      obtain ⟨k0, k1, k2, z0, z1, z2, hgw⟩ := hkr.cells
      obtain ⟨q, hq⟩ : ∃ q, F.bad = q := ⟨_, rfl⟩
      rw [hq] at k0
      have HQ := Lib.hid hq
      have hSg : ¬ Inb w.heap.size w1.heap.size g := fun h => by have := h.1; omega
      clear hkr hfd hdat hrow hq hF HW
      generalize gs[k] = a at *
      obtain ⟨anum, awire, ax, adata⟩ := a
      dsimp only at *
      have HLN : Hid (adata.length ≤ 4194304) := Lib.hid hlen
      generalize hdl : adata.length = alen at *
      have hways : q = true ∨ (q = false ∧ awire = 2) ∨ (q = false ∧ ¬ awire = 2) := by cases q <;> simp; omega
      have HDL := Lib.hid hdl
      clear hdl
      have hwe : awire = 2 → (awire != 2) = false := by intro h; simp [h]
      have hwne : ¬ awire = 2 → (awire != 2) = true := by intro h; simp [h]
      rcases hways with rfl | ⟨rfl, hw2⟩ | ⟨rfl, hw2⟩
      all_goals
        try (have hwe := hwe hw2)
        try (have hwne := hwne hw2)
        try (have HW2 := Lib.hid hw2)
        try (clear hw2)
        go_wp2_with fail
        refine Calls.mono (tensor1_any ((HK.out.or0 (!decide (awire = 2)) (by rw [HQ.out]; first | (simp; done) | (simp; exact HW2.out))).alloc _) adata) ?_
        rintro e' w3 ⟨rfl, hk3, hg3⟩
        skip
        have G3 : Hid (wr.grownBy w3 (some g)) := Lib.hid (grown_trans (grown_trans (grown_set _ _ _ _) (grown_alloc _ _)) hg3)
        have HR3 := Lib.hid (HR.out.grown G3.out (fun q hq => by injection hq with hq; omega))
        have hz3 := G3.out.size
        go_wp2_with (at_builtin
                     go_must (refine append_dat 35 3 (.int .i64 0) 1 8 (by kernel_rfl) info_Int rfl (by decide) rfl _ _ rfl HR3.out rfl rfl rfl [lfI 0] [.int .i64 (0 : Int64).toInt] rfl rfl (by simp [Value.oneCell', strV]) (HL.get (.cons (.leaf _) .nil)) (by omega) (by unfold maxLen; omega) (by omega) ?_; intro v2 w4 ho2 hg4 ha2))
        go_roundw
        case rel => exact ⟨k + 1, hlt', by go_num, by rw [HT1.out]; exact ho2, Lib.hid (fun q h => by
          rcases ha2 with ha2 | ⟨q', ha2, hq'⟩
          · exact hob.out q (ha2 ▸ h)
          · rw [ha2] at h; injection h with h; omega), (hk3.row HR3.out (by omega) hg4).to (by rw [← HFF.out, HT2.out]; simp only [Fl.or_assoc]), grown_own (grown_trans hgr G3.out) hg4 (fun q hq => hob.out q hq)⟩
        case measure => simp [intOf]; omega
    · have hke : k = gs.length := by omega
      obtain ⟨k0, k1, k2, z0, z1, z2, hgw⟩ := hkr.cells
      obtain ⟨q, hq⟩ : ∃ q, (f.or ((Fl.all ((gs.take k).map fun a => (dZero a.data).2)).or (flb ((gs.take k).any fun a => !decide (a.wire = 2))))).many = q := ⟨_, rfl⟩
      rw [hq] at k2
      have HQ := Lib.hid hq
      have HKE := Lib.hid hke
      clear hrow hkr hq hke
      cases q
      all_goals
        by_cases hlong : most < k
        all_goals
          go_wp2
          go_ret
          have e1 : gs.take k = gs := by rw [HKE.out, List.take_length]
          have h9 := HK.out.or2 (decide (most < gs.length)) (b := decide (most < k) || (f.or ((Fl.all ((gs.take k).map fun a => (dZero a.data).2)).or (flb ((gs.take k).any fun a => !decide (a.wire = 2))))).many) (by rw [HKE.out, Bool.or_comm])
          rw [HQ.out] at h9
          simp only [hlong, decide_true, decide_false, Bool.or_true, Bool.or_false, Bool.true_or, Bool.false_or] at h9
          have h8 := HR.out
          rw [e1] at h8 h9
          unfold Rd
          rw [HD.out.2]
          refine ⟨_, rfl, ?_, ?_, grown_trans (grown_trans (grown_past HB.out _) hgr) (grown_set _ _ _ _)⟩
          · rw [HE.out]
            refine ((h8.held (by omega)).setCell (p := ⟨g, 2, none⟩) (fun h => by have h11 : w.heap.size ≤ g := h.1; omega) _).mono fun b hb => ⟨?_, ?_⟩
            · have := hb.1; omega
            · have := hb.2; simpa [World.setCell] using this
          · exact h9.to (by simp only [Fl.or_assoc])

def LInt2rel (B : Nat) (W1 : World) (g : Nat) (f : Fl) (gs : List Fld) (out i : Value) (wr : World) : Prop :=
  ∃ k : Nat, k ≤ gs.length ∧ i = .int .i64 (k : Int) ∧ HRow wr B 3 1 out k ((gs.take k).flatMap fun a => [lfI (dZero a.data).1]) ∧ Hid (∀ q, out.ownBlock = some q → W1.heap.size ≤ q) ∧
    RdB wr g (f.or ((Fl.all ((gs.take k).map fun a => (dZero a.data).2)).or (flb ((gs.take k).any fun a => !decide (a.wire = 2))))) ∧ W1.grownBy wr (some g)
set_option maxRecDepth 100000 in
set_option maxHeartbeats 1600000 in
theorem list_Int2 {fs : List Fld} (num : Int) (most : Nat) (hk : RdB w g f) (hv : Held w S (datFs fs) v) (hm : Sm fs) :
    Calls Tryz.prog 72 #[.pointer (some ⟨g, 0, none⟩), v, .int .i64 num, .int .i64 most, .func (.func 73) #[] #[]] w (Rd w g f (.row 1 ((dList dZero fs num most).1.flatMap fun x => [lfI x])) (dList dZero fs num most).2) := by
  obtain ⟨A, c, rfl, h2, h3, h4⟩ := hv.rf
  obtain ⟨gs, hgs⟩ : ∃ gs, sel num fs = gs := ⟨_, rfl⟩
  have HD : Hid ((dList dZero fs num most).1 = gs.map (fun a => (dZero a.data).1) ∧ (dList dZero fs num most).2 = ((Fl.all (gs.map fun a => (dZero a.data).2)).or (flb (gs.any fun a => !decide (a.wire = 2)))).or ⟨false, false, decide (most < gs.length)⟩) := Lib.hid (by rw [← hgs]; exact ⟨rfl, rfl⟩)
  have HE : Hid (((dList dZero fs num most).1.flatMap fun x => [lfI x]) = gs.flatMap fun a => [lfI (dZero a.data).1]) := Lib.hid (by rw [HD.out.1, List.flatMap_map])
  have hgl : gs.length ≤ 4194304 := by rw [← hgs]; have := sel_len num fs; have := hm.1; omega
  have hgd : ∀ j (hj : j < gs.length), gs[j].data.length ≤ 4194304 := by
    intro j hj
    have h5 := data_bulk hj
    have h6 := bulk_sel num fs
    have h7 := hm.2.1
    rw [hgs] at h6
    omega
  have HC := Lib.hid (all_any A c fs num w (by have := hm.1; omega) (by have := hm.2.1; omega) h4)
  rw [hgs] at HC
  clear hv hgs h2 h3 h4 hm
  generalize fs.length = n at *
  go_enter Tryz.func72, Tryz.ntmps72
  go_wp2_with fail
  refine HC.out.mono ?_
  rintro e w1 ⟨u, rfl, ho, hb⟩
  have HF := Lib.hid (ho.held (by omega) fun i hi => by have := hgd i hi; omega)
  obtain ⟨A1, c1, rfl, -⟩ := ho.form
  have HB := Lib.hid hb
  have hk1 := hk.past hb
  have hlt := hk.lt
  have hsz := hb.size
  clear hb ho
  go_wp2
  go_loopw [11, 18] (fun out i wr => LInt2rel w.heap.size w1 g f gs out i wr) (fun _ i _ => gs.length - (intOf i).toNat)
  case atStart => exact ⟨0, Nat.zero_le _, rfl, HRow.nil _ _ _ _, Lib.hid (fun q h => by cases h), hk1.to (by simp [Fl.all, Fl.or, flb]), grown_past (Below.refl _ _) _⟩
  case round =>
    obtain ⟨k, hk', rfl, hrow, hob, hkr, hgr⟩ := hrel
    have hz := hgr.size
    have HK := Lib.hid hkr
    have HR := Lib.hid hrow
    obtain ⟨out1, out2, rfl, -⟩ := hrow.form
    by_cases hlt' : k < gs.length
    · have hfd := HF.out.rd (g := g) (fun h => by have := h.1; omega) hgr
      obtain ⟨b, off, Ad, cd, rfl, hbb, a0, a1, a2, a3, hdat⟩ := hfd.fld_at hlt'
      have hlen := hgd k hlt'
      have HT1 := Lib.hid (list_dat (fun a => [lfI (dZero a.data).1]) hlt')
      have HT2 := Lib.hid (list_fl (fun l => (dZero l).2) hlt')
      have HDT := Lib.hid hdat
      have HW := Lib.hid hkr
      obtain ⟨F, hF⟩ : ∃ F, f.or ((Fl.all ((gs.take k).map fun a => (dZero a.data).2)).or (flb ((gs.take k).any fun a => !decide (a.wire = 2)))) = F := ⟨_, rfl⟩
      have HFF := Lib.hid hF
      rw [hF] at hkr HK
      obtain ⟨k0, k1, k2, z0, z1, z2, hgw⟩ := hkr.cells
      obtain ⟨q, hq⟩ : ∃ q, F.bad = q := ⟨_, rfl⟩
      rw [hq] at k0
      have HQ := Lib.hid hq
      have hSg : ¬ Inb w.heap.size w1.heap.size g := fun h => by have := h.1; omega
      clear hkr hfd hdat hrow hq hF HW
      generalize gs[k] = a at *
      obtain ⟨anum, awire, ax, adata⟩ := a
      dsimp only at *
      have HLN : Hid (adata.length ≤ 4194304) := Lib.hid hlen
      generalize hdl : adata.length = alen at *
      have hways : q = true ∨ (q = false ∧ awire = 2) ∨ (q = false ∧ ¬ awire = 2) := by cases q <;> simp; omega
      have HDL := Lib.hid hdl
      clear hdl
      have hwe : awire = 2 → (awire != 2) = false := by intro h; simp [h]
      have hwne : ¬ awire = 2 → (awire != 2) = true := by intro h; simp [h]
      rcases hways with rfl | ⟨rfl, hw2⟩ | ⟨rfl, hw2⟩
      all_goals
        try (have hwe := hwe hw2)
        try (have hwne := hwne hw2)
        try (have HW2 := Lib.hid hw2)
        try (clear hw2)
        go_wp2_with fail
        refine Calls.mono (graph1_any ((HK.out.or0 (!decide (awire = 2)) (by rw [HQ.out]; first | (simp; done) | (simp; exact HW2.out))).alloc _) adata) ?_
        rintro e' w3 ⟨rfl, hk3, hg3⟩
        skip
        have G3 : Hid (wr.grownBy w3 (some g)) := Lib.hid (grown_trans (grown_trans (grown_set _ _ _ _) (grown_alloc _ _)) hg3)
        have HR3 := Lib.hid (HR.out.grown G3.out (fun q hq => by injection hq with hq; omega))
        have hz3 := G3.out.size
        go_wp2_with (at_builtin
                     go_must (refine append_dat 35 3 (.int .i64 0) 1 8 (by kernel_rfl) info_Int2 rfl (by decide) rfl _ _ rfl HR3.out rfl rfl rfl [lfI 0] [.int .i64 (0 : Int64).toInt] rfl rfl (by simp [Value.oneCell', strV]) (HL.get (.cons (.leaf _) .nil)) (by omega) (by unfold maxLen; omega) (by omega) ?_; intro v2 w4 ho2 hg4 ha2))
        go_roundw
        case rel => exact ⟨k + 1, hlt', by go_num, by rw [HT1.out]; exact ho2, Lib.hid (fun q h => by
          rcases ha2 with ha2 | ⟨q', ha2, hq'⟩
          · exact hob.out q (ha2 ▸ h)
          · rw [ha2] at h; injection h with h; omega), (hk3.row HR3.out (by omega) hg4).to (by rw [← HFF.out, HT2.out]; simp only [Fl.or_assoc]), grown_own (grown_trans hgr G3.out) hg4 (fun q hq => hob.out q hq)⟩
        case measure => simp [intOf]; omega
    · have hke : k = gs.length := by omega
      obtain ⟨k0, k1, k2, z0, z1, z2, hgw⟩ := hkr.cells
      obtain ⟨q, hq⟩ : ∃ q, (f.or ((Fl.all ((gs.take k).map fun a => (dZero a.data).2)).or (flb ((gs.take k).any fun a => !decide (a.wire = 2))))).many = q := ⟨_, rfl⟩
      rw [hq] at k2
      have HQ := Lib.hid hq
      have HKE := Lib.hid hke
      clear hrow hkr hq hke
      cases q
      all_goals
        by_cases hlong : most < k
        all_goals
          go_wp2
          go_ret
          have e1 : gs.take k = gs := by rw [HKE.out, List.take_length]
          have h9 := HK.out.or2 (decide (most < gs.length)) (b := decide (most < k) || (f.or ((Fl.all ((gs.take k).map fun a => (dZero a.data).2)).or (flb ((gs.take k).any fun a => !decide (a.wire = 2))))).many) (by rw [HKE.out, Bool.or_comm])
          rw [HQ.out] at h9
          simp only [hlong, decide_true, decide_false, Bool.or_true, Bool.or_false, Bool.true_or, Bool.false_or] at h9
          have h8 := HR.out
          rw [e1] at h8 h9
          unfold Rd
          rw [HD.out.2]
          refine ⟨_, rfl, ?_, ?_, grown_trans (grown_trans (grown_past HB.out _) hgr) (grown_set _ _ _ _)⟩
          · rw [HE.out]
            refine ((h8.held (by omega)).setCell (p := ⟨g, 2, none⟩) (fun h => by have h11 : w.heap.size ≤ g := h.1; omega) _).mono fun b hb => ⟨?_, ?_⟩
            · have := hb.1; omega
            · have := hb.2; simpa [World.setCell] using this
          · exact h9.to (by simp only [Fl.or_assoc])
end
end Go.Proofs.YtlhpmlknmgocoaaGreat
