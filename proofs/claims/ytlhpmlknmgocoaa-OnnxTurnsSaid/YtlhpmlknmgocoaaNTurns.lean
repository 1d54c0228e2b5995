/- The statement OnnxTurns: fields of unlike numbers change places. No condition. -/
import Derived.Test.YtlhpmlknmgocoaaOnPc
import Derived.Test.YtlhpmlknmgocoaaOnOp
namespace Go.Proofs.Ytlhpmlknmgocoaa.onnxTurns
set_option linter.unusedSimpArgs false
set_option linter.unusedVariables false
open Go.ChangeShapes Go.WideShapes Go.ChangeAt Go.RowKit
set_option linter.unusedVariables false

set_option maxRecDepth 100000 in
set_option maxHeartbeats 2400000 in
theorem walk (w : World) (m : Mo) (us : List Value) (hl : HL w (fun _ => True) (datM m) us) :
    Calls Try.prog 8 #[.agg us.toArray] w fun e w' => e = .returned (.bool true) ∧ Below w.heap.size w w' := by
  obtain ⟨A1, c1, A2, c2, A3, c3, A4, c4, rfl, -⟩ := hl.mod
  obtain ⟨cs, hcs⟩ : ∃ cs : Array Value, #[.int .i64 m.opset.toInt, .string ⟨m.name.toArray⟩, .slice A1 m.nodes.length c1, .slice A2 m.inits.length c2, .slice A3 m.inputs.length c3, .slice A4 m.outputs.length c4] = cs := ⟨_, rfl⟩
  have HL0 := Lib.hid hl
  have HB0 := Lib.hid (Blk.new w 32 cs)
  have HBL0 := Lib.hid ((Below.refl w.heap.size w).alloc (Nat.le_refl _) (.cells cs 32))
  have HAW := Lib.hid (oawake_any (w.alloc (.cells cs 32)))
  have HCS := Lib.hid hcs
  clear hcs hl
  go_enter Try.func8, Try.ntmps8
  go_wp2_with fail
  rw [HCS.out]
  refine Calls.mono HAW.out ?_
  rintro e W1 ⟨rfl, hb⟩
  have HB1 := Lib.hid (HBL0.out.trans (hb.mono HBL0.out.size))
  have hblk := HB0.out.below hb HB0.out.lt
  have HK1 := Lib.hid hblk
  rw [← HCS.out] at hblk
  obtain ⟨p0, p1, p2, p3, p4, p5, -, -, -, -, -, -, lp⟩ := blkc6 hblk
  have HC1 := Lib.hid (encode_any (HL0.out.keep (fun h => h.past HB1.out)))
  obtain ⟨⟨b, er⟩, hr⟩ : ∃ r, encM m = r := ⟨_, rfl⟩
  rw [hr] at HC1
  have HR := Lib.hid hr
  clear hb hblk HAW HB0 HBL0 hr
  go_wp2_with fail
  refine Calls.mono HC1.out ?_
  rintro e W2 ⟨u, rfl, hd, hb2⟩
  obtain ⟨A5, c5, rfl, -⟩ := Held.form1 hd
  have HC2 := Lib.hid (parts_any hd)
  have HB2 := Lib.hid (HB1.out.trans (hb2.mono HB1.out.size))
  have HK2 := Lib.hid (HK1.out.below hb2 HK1.out.lt)
  clear p0 p1 p2 p3 p4 p5 lp HC1 hd hb2
  dsimp only
  go_wp2_with fail
  refine Calls.mono HC2.out ?_
  rintro e W3 ⟨A6, c6, rfl, hg3, hb3⟩
  have HB3 := Lib.hid (HB2.out.trans (hb3.mono HB2.out.size))
  have HK3 := Lib.hid (HK2.out.below hb3 HK2.out.lt)
  have HG3 := Lib.hid hg3
  clear HC2 hg3 hb3
  by_cases he : er = 0
  case neg =>
    have e1 : (er == 0) = false := by simpa using he
    go_wp2
    go_ret
    exact ⟨rfl, HB3.out⟩
  subst he
  by_cases hbig : 2000000 < b.length
  case pos =>
    have hbig' : (2000000 : Int) < (b.length : Int) := by omega
    rw [prt_enc HR.out]
    dsimp only
    go_wp2
    go_ret
    exact ⟨rfl, HB3.out⟩
  have hbs : b.length ≤ 2000000 := by omega
  have hglen := gra_len HR.out
  have hbig' : ¬ (2000000 : Int) < (b.length : Int) := by omega
  rw [prt_enc HR.out] at HG3 ⊢
  dsimp only at HG3 ⊢
  obtain ⟨hwt, hdec⟩ := turn_back HR.out hbs
  have htl := turned_len (graF m)
  have hrd := read_of (graF_ok m) (enc_ok HR.out).gra
  have hTW := turned_ok m
  obtain ⟨g, hgr⟩ : ∃ g, wr (graF m) = g := ⟨_, rfl⟩
  rw [hgr] at HG3 hglen hrd htl ⊢
  have hsm := dFields_len g
  have hf0 : (dFields g).1 = (readE g).1 := rfl
  rw [hf0, hrd] at hsm
  dsimp only at hsm
  obtain ⟨fs, hfs⟩ : ∃ fs, graF m = fs := ⟨_, rfl⟩
  rw [hfs] at hwt hdec htl hrd hTW hsm
  have hdl : ∀ f ∈ fs, f.data.length ≤ 140737488351232 := fun f hf => (hsm.2.2 f hf).2
  have hfl := hsm.1
  have HW64 : Hid (Wf64 (turned fs)) := Lib.hid fun f hf => ⟨(hTW f hf).2, by
    unfold turned at hf
    simp only [List.mem_append, sel, List.mem_filter] at hf
    exact hdl f (by rcases hf with (((hf | hf) | hf) | hf) | hf <;> exact hf.1)⟩
  have htlen : (wr (turned fs)).length ≤ 2000000 := by omega
  obtain ⟨A6', c6', e6, h62, h63, h64⟩ := HG3.out.dv
  injection e6 with e61 e62 e63
  subst e61 e63
  have HC4 := Lib.hid (rread_any A6 c6 g W3 h62 h63 h64)
  rw [hrd] at HC4
  have HWT := Lib.hid hwt
  have HDL := Lib.hid hdl
  have HDEC2 : Hid (∃ bt, wr (turned fs) = bt ∧ bt.length ≤ 2000000 ∧ decM (msg 8 [16, 17] ++ msg 7 bt) = (m, 0)) := Lib.hid ⟨_, rfl, htlen, hdec⟩
  clear htlen hgr hf0 hfs hsm hwt hdec htl hrd hTW hdl e62 h62 h63 h64
  go_wp2_with fail
  refine Calls.mono HC4.out ?_
  rintro e W4 ⟨u4, rfl, ho4, hb4⟩
  dsimp only at ho4
  have hd4 := ho4.held (by omega) fun i hi => by
    have := HDL.out _ (List.getElem_mem hi)
    omega
  obtain ⟨A7, c7, rfl, hc7, hc7', hrf7⟩ := hd4.rf
  have HRF := Lib.hid hrf7
  have HB4 := Lib.hid (HB3.out.trans (hb4.mono HB3.out.size))
  have HK4 := Lib.hid (HK3.out.below hb4 HK3.out.lt)
  have HB34 := Lib.hid hb4
  have HBO := Lib.hid (Blk.new W4 3 #[.int .i64 12, .int .i64 11, .int .i64 5, .int .i64 2, .int .i64 1])
  have HBA := Lib.hid ((Below.refl W4.heap.size W4).alloc (Nat.le_refl _) (.cells #[.int .i64 12, .int .i64 11, .int .i64 5, .int .i64 2, .int .i64 1] 3))
  have HROW0 := fun w : World => Lib.hid (HRow.nil w 0 102 4)
  clear HC4 ho4 hb4 hd4 hrf7 hc7 hc7'
  go_wp2
  obtain ⟨W5, hW5⟩ : ∃ W5, W4.alloc (.cells #[.int .i64 12, .int .i64 11, .int .i64 5, .int .i64 2, .int .i64 1] 3) = W5 := ⟨_, rfl⟩
  have hz5 : W5.heap.size = W4.heap.size + 1 := by rw [← hW5]; simp
  rw [hW5] at HBO HBA ⊢
  clear hW5
  have HRF5 := Lib.hid (HRF.out.below HBA.out)
  go_loopw [10, 12] (fun out i wr => TRel fs W5 out i wr) (fun _ i _ => 5 - (intOf i).toNat)
  case atStart => exact ⟨0, by omega, rfl, (HROW0 _).out, fun g hg => (by cases hg), Below.refl _ _⟩
  case round =>
    obtain ⟨k, hk, rfl, hrow, hown, hbel⟩ := hrel
    have hsz := hbel.size
    by_cases hlt : k < 5
    · have hcell := (hbel.cell (p := ⟨W4.heap.size, k, none⟩) (by show W4.heap.size < W5.heap.size; omega)).trans (ord_cells W5 W4.heap.size HBO.out hlt)
      have HA := fun num => Lib.hid (rall_B W4.heap.size A7 c7 fs num wr (by omega) (HRF5.out.below (hbel.mono (by omega))) (by omega))
      have HS := Lib.hid (pre5_succ fs hlt)
      have hpl := pre5_le5 fs hk
      have hsl := sel_len (ordL.getD k 0) fs
      generalize ordL.getD k 0 = num at *
      obtain ⟨A0, c0, rfl, -⟩ := hrow.form
      go_wp2_with fail
      refine Calls.mono (HA num).out ?_
      rintro e W6 ⟨u6, rfl, ho6, hb6⟩
      have hd6 := ho6.held (by omega) fun i hi => by
        have := HDL.out _ (List.mem_filter.1 (List.getElem_mem hi)).1
        omega
      obtain ⟨A6, c6, rfl, -⟩ := hd6.rf
      have hrow6 := hrow.past hb6
      have hz6 := hb6.size
      have hlt6 := hrow.lt
      have hS6 : ∀ b, (b < W4.heap.size ∨ wr.heap.size ≤ b) → b < W6.heap.size → Oth 0 W6 (.slice A0 (pre5 fs k).length c0) b := fun b hb h' => ⟨Nat.zero_le _, h', fun e => by
        have h1 := hown b e
        have h2 := hlt6 b e
        omega⟩
      go_wp2_with (at_builtin
                   go_must (refine append_flds 48 102 (by kernel_rfl) info_rf (by rfl) _ _ (by rfl) hrow6 rfl (sel num fs) rfl hd6 hS6 (by omega) (Nat.zero_le _) ?_; intro v2 w2 hr2 hg2 ha2))
      go_roundw
      case rel =>
        refine ⟨k + 1, by omega, by go_num, by rw [HS.out]; exact hr2, fun g hg => ?_, (hbel.trans (hb6.mono hsz)).grown hg2 (by omega) fun g hg => hown g hg⟩
        rcases ha2 with e1 | e1
        · exact hown g (e1 ▸ hg)
        · rw [e1] at hg
          injection hg with hg
          omega
      case measure => simp [intOf]; omega
    · obtain rfl : k = 5 := by omega
      rw [pre5_all] at hrow
      have hd5 := hrow.held (by rw [← pre5_all]; have := pre5_le5 fs (Nat.le_refl 5); omega)
      obtain ⟨A8, c8, rfl, hc8, hc8', hrf8⟩ := Held.rf (fs := turned fs) hd5
      have HC6 := Lib.hid (rwrite_any A8 c8 (turned fs) wr hc8' hc8 hrf8 HW64.out)
      rw [HWT.out] at HC6
      have HBW5 := Lib.hid (HBA.out.trans (hbel.mono (by omega)))
      obtain ⟨bt, hbt, hbl, hdec⟩ := HDEC2.out
      rw [hbt] at HC6
      generalize (turned fs).length = nt at *
      clear hrow hown hd5 hrf8 HDEC2 HWT HW64 HDL HRF HRF5
      clear hbt
      go_wp2_with fail
      refine Calls.mono HC6.out ?_
      rintro e W6 ⟨u6, rfl, ho6, hb6⟩
      dsimp only at ho6
      have HD6 := Lib.hid (ho6.held (by omega))
      obtain ⟨A9, c9, rfl, -⟩ := Held.form1 HD6.out
      have HB6 := Lib.hid (HBW5.out.trans (hb6.mono HBW5.out.size))
      have HM8 := Lib.hid (message_own 8 (held_byts (l := [16, 17]) (Blk.new W6 5 (byt [16, 17]).toArray) (by decide)) (by decide))
      have HA6 := Lib.hid ((Below.refl W6.heap.size W6).alloc (Nat.le_refl _) (.cells (byt [16, 17]).toArray 5))
      clear ho6 hb6 HC6
      go_wp2_with fail
      refine Calls.mono HM8.out ?_
      rintro e W7 ⟨u7, rfl, ho7, hb7⟩
      obtain ⟨A10, n10, c10, rfl, hn10, hl10, hq10, hr10⟩ := ho7.form2
      have HM7 := Lib.hid (rmsg_any 7 ((HD6.out.alloc _).past hb7) (by omega))
      have HB7 := Lib.hid (HB6.out.trans ((HA6.out.trans (hb7.mono HA6.out.size)).mono HB6.out.size))
      have hz70 := hb7.size
      clear hb7
      go_wp2_with fail
      refine Calls.mono HM7.out ?_
      rintro e W8 hmd
      obtain ⟨A11, c11, rfl, hd11, hb11⟩ := hmd.form
      have hoc := ho7.below hb11 (Nat.le_refl _)
      have hm8 := msg_len 8 [16, 17]
      have hm7 := msg_len 7 bt
      have hz8 := hb11.size
      have HB8 := Lib.hid (HB34.out.trans ((HB7.out.trans (hb11.mono HB7.out.size)).mono HB34.out.size))
      go_wp2_with (at_builtin
                   go_must (refine append_bytes rfl _ _ rfl hoc rfl (msg 7 bt) rfl rfl hd11.rbb (by omega) (by omega) ?_; intro v12 w12 ho12 hg12 ha12; obtain ⟨A12, n12, c12, rfl, hn12, hl12, hq12, hr12⟩ := ho12.form2))
      have HOC := Lib.hid ho12
      have HBC := Lib.hid (grown_below hoc hg12 (by omega) (by have := HA6.out.size; have := HB6.out.size; have := HB34.out.size; omega) HB8.out)
      have HDEC : Hid (decM (msg 8 [16, 17] ++ msg 7 bt) = (m, 0)) := Lib.hid hdec
      have HLC : Hid ((msg 8 [16, 17] ++ msg 7 bt).length ≤ 140737488355328) := Lib.hid (by rw [List.length_append]; omega)
      clear ho12 hg12 ha12 hn12 hl12 hq12 hr12 hdec hoc hmd hd11 hb11 ho7 hn10 hl10 hq10 hr10
      have HC8 := Lib.hid (decode_any (HOC.out.held HLC.out))
      rw [HDEC.out] at HC8
      refine Calls.mono HC8.out ?_
      rintro e W8 ⟨u8, rfl, hm8, hb8⟩
      obtain ⟨N1, n1, N2, n2, N3, n3, N4, n4, rfl, hl8⟩ := hm8.hl
      have HBW := Lib.hid (HB3.out.trans (HBC.out.mono HB3.out.size))
      have HB8 := Lib.hid (HBW.out.trans (hb8.mono HBW.out.size))
      have hblk := (HK3.out.below HBC.out HK3.out.lt).below hb8 (Nat.lt_of_lt_of_le HK3.out.lt HBC.out.size)
      have HSM := fun cz => Lib.hid (same_model (w := W8.alloc (.cells cz 32)) (HL0.out.keep (fun h => (h.past HB8.out).alloc _)) (hl8.keep (fun h => h.alloc _)))
      have HA8 := fun cz => Lib.hid (HB8.out.alloc HB8.out.size (.cells cz 32))
      rw [← HCS.out] at hblk
      obtain ⟨p0, p1, p2, p3, p4, p5, -, -, -, -, -, -, lp⟩ := blkc6 hblk
      clear hblk hl8 hm8 hb8 HC8
      go_wp2_with fail
      refine Calls.mono (HSM _).out ?_
      rintro e W9 ⟨rfl, hb9⟩
      have HF := Lib.hid ((HA8 _).out.trans (hb9.mono (HA8 _).out.size))
      clear hb9
      go_wp2
      go_ret
      exact ⟨rfl, HF.out⟩
/-! ### THE ROW's STEP -/
set_option maxRecDepth 100000 in
theorem lifted (os : Os) (started : os.Started) (H : Type) (enc : TypeId × Value → H) :
    ReturnsInHanded {} Try.checked os 8 .any (Rows.onnxTurnsSpec.pre6 enc Try.prog Try.f8 Rows.onnxTurnsRow.domain false) (Rows.onnxTurnsSpec.post enc Try.prog Try.f8 false true false false) := by
  refine returnsInHanded_of_change_sized (C := Try.checked) own started (by kernel_rfl) Try.func8
    (ChangeSpec.witness6 (enc := enc) (C := Try.checked) false ⟨#[], #[.agg #[.int .i64 0, .string ⟨#[]⟩, .slice none 0 0, .slice none 0 0, .slice none 0 0, .slice none 0 0]], []⟩ 8 (by kernel_rfl) (by kernel_rfl) (by kernel_rfl) (by kernel_rfl)) ?_
  intro W base args ds gs before hval0 hW hcnd hsz0 _
  have hval : ∀ (j : Nat) t v, Try.f8.params[j]? = some t → args[j]? = some v → Value.okWide Try.prog W .any base t v := hval0
  have hW' := hW
  obtain ⟨p, q, hA0, hV, rfl, hfz, hnd⟩ := hW
  have hA : DataW.TrodAll enc Try.prog W 0 (fun _ => true) true Try.f8.params.toList args.toList ds p := hA0
  have hsz : (DataW.weightsEach Try.prog (Try.f8.params.toList ++ Rows.onnxTurnsSpec.plain.varTypes Try.prog) (ds ++ gs)).all (· ≤ reachBytes) = true := hsz0
  rw [Try.params8] at hA hval hsz
  obtain ⟨v0, vs0, d0, ds0, p0, q0, hargs, rfl, rfl, h0, r0⟩ := trodAll_cons hA
  obtain ⟨rfl, rfl, rfl⟩ := trodAll_nil r0
  obtain rfl : args = #[v0] := by cases args; simp_all
  obtain ⟨rfl, rfl⟩ := trodVars_none hV
  clear hA0 hval0 hsz0
  have k0 := h0
  have lt0 : ∀ x ∈ p0, x.block < W.heap.size := by obtain ⟨m, hm⟩ := k0; exact DataW.trod_lt m _ _ _ hm
  have wt0 : ∀ n ∈ d0.weights Try.prog 32, n ≤ reachBytes := fun n hn => by simpa using List.all_eq_true.1 hsz _ (DataW.weights_mem_each (j := 0) (t := 32) rfl rfl n hn)
  obtain ⟨m0, us0, rfl, hh0⟩ := open_model (hval 0 32 v0 rfl rfl) h0 wt0 (fun _ => rfl)
  refine (walk W m0 us0 hh0).mono fun e W' ⟨he, bel⟩ => ?_
  subst he
  exact ⟨_, rfl, _, _, _, [], _, [], hW', trodAll_mk1 (shut_bool Try.underlying4 _), (trodAll_cons_mk (Below.trod laidOut (by kernel_rfl) (of_decide_eq_true (by kernel_rfl)) k0 bel lt0) trodAll_mk0), rfl, bel.frame _, fun h => by cases h⟩

theorem over : Rows.onnxTurnsRow.holds Try.pinned (OpenSpec.ofChange Rows.onnxTurnsSpec) :=
  OpenClaim.holds_of_wide 8 Try.f8 rfl rfl rfl rfl rfl rfl rfl ⟨rfl, rfl, rfl, rfl, rfl⟩ rfl rfl rfl rfl rfl (by kernel_rfl) Try.func8 (by kernel_rfl)
    (of_decide_eq_true (by kernel_rfl)) (by unfold Func.isWrapper; first | (rw [if_pos (by decide +kernel)]; kernel_rfl) | (rw [if_neg (by decide +kernel)]; exact ⟨rfl, rfl⟩))
    (fun os started H enc _ => lifted os started H enc)

theorem proved : Rows.OnnxTurnsSaid := over
#print axioms proved
end Go.Proofs.Ytlhpmlknmgocoaa.onnxTurns
