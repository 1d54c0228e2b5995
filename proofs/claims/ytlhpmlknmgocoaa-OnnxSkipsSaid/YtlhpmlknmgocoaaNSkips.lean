/- The statement OnnxSkips: fields of numbers that are not named change nothing. No condition. -/
import Derived.Test.YtlhpmlknmgocoaaOnAw
import Derived.Test.YtlhpmlknmgocoaaOnPa
import Derived.Test.YtlhpmlknmgocoaaOnOp
namespace Go.Proofs.Ytlhpmlknmgocoaa.onnxSkips
set_option linter.unusedSimpArgs false
set_option linter.unusedVariables false
open Go.ChangeShapes Go.WideShapes Go.ChangeAt Go.RowKit
set_option linter.unusedVariables false

set_option maxRecDepth 100000 in
set_option maxHeartbeats 1200000 in
theorem walk (w : World) (m : Mo) (us : List Value) (hl : HL w (fun _ => True) (datM m) us) (a1 : Int) (w1 : (Lit.int .i64 a1).wf = true) (a2 : Int) (w2 : (Lit.int .u64 a2).wf = true) (a3 : Bool) :
    Calls Try.prog 6 #[.agg us.toArray, .int .i64 a1, .int .u64 a2, .bool a3] w fun e w' => e = .returned (.bool true) ∧ Below w.heap.size w w' := by
  obtain ⟨x, rfl, hx⟩ := u64_nat w2
  have HX := Lib.hid hx
  clear w1 w2 hx
  obtain ⟨A1, c1, A2, c2, A3, c3, A4, c4, rfl, -⟩ := hl.mod
  obtain ⟨cs, hcs⟩ : ∃ cs : Array Value, #[.int .i64 m.opset.toInt, .string ⟨m.name.toArray⟩, .slice A1 m.nodes.length c1, .slice A2 m.inits.length c2, .slice A3 m.inputs.length c3, .slice A4 m.outputs.length c4] = cs := ⟨_, rfl⟩
  have HL0 := Lib.hid hl
  have HB0 := Lib.hid (Blk.new w 32 cs)
  have HBL0 := Lib.hid ((Below.refl w.heap.size w).alloc (Nat.le_refl _) (.cells cs 32))
  have HAW := Lib.hid (oawake_any (w.alloc (.cells cs 32)))
  have HCS := Lib.hid hcs
  clear hcs hl
  go_enter Try.func6, Try.ntmps6
  go_wp2_with fail
  rw [HCS.out]
  refine Calls.mono HAW.out ?_
  rintro e W1 ⟨rfl, hb⟩
  have HB1 := Lib.hid (HBL0.out.trans (hb.mono HBL0.out.size))
  have hblk := HB0.out.below hb HB0.out.lt
  have HK1 := Lib.hid hblk
  rw [← HCS.out] at hblk
  obtain ⟨p0, p1, p2, p3, p4, p5, -, -, -, -, -, -, lp⟩ := blkc6 hblk
  have HC1 := Lib.hid (encode_any (HL0.out.keep (fun h => h.past HB1.out)))
  obtain ⟨⟨b, er⟩, hr⟩ : ∃ r, encM m = r := ⟨_, rfl⟩
  rw [hr] at HC1
  have HR := Lib.hid hr
  clear hb hblk HAW HB0 HBL0 hr
  go_wp2_with fail
  refine Calls.mono HC1.out ?_
  rintro e W2 ⟨u, rfl, hd, hb2⟩
  obtain ⟨A5, c5, rfl, -⟩ := Held.form1 hd
  have HC2 := Lib.hid (parts_any hd)
  have HB2 := Lib.hid (HB1.out.trans (hb2.mono HB1.out.size))
  have HK2 := Lib.hid (HK1.out.below hb2 HK1.out.lt)
  clear p0 p1 p2 p3 p4 p5 lp HC1 hd hb2
  dsimp only
  go_wp2_with fail
  refine Calls.mono HC2.out ?_
  rintro e W3 ⟨A6, c6, rfl, hg3, hb3⟩
  have HB3 := Lib.hid (HB2.out.trans (hb3.mono HB2.out.size))
  have HK3 := Lib.hid (HK2.out.below hb3 HK2.out.lt)
  have HG3 := Lib.hid hg3
  clear HC2 hg3 hb3
  by_cases he : er = 0
  case neg =>
    have e1 : (er == 0) = false := by simpa using he
    go_wp2
    go_ret
    exact ⟨rfl, HB3.out⟩
  subst he
  by_cases hbig : 2000000 < b.length
  case pos =>
    have hbig' : (2000000 : Int) < (b.length : Int) := by omega
    rw [prt_enc HR.out]
    dsimp only
    go_wp2
    go_ret
    exact ⟨rfl, HB3.out⟩
  have hbs : b.length ≤ 2000000 := by omega
  have hglen := gra_len HR.out
  have hbig' : ¬ (2000000 : Int) < (b.length : Int) := by omega
  rw [prt_enc HR.out] at HG3 ⊢
  dsimp only at HG3 ⊢
  obtain ⟨g, hgr⟩ : ∃ g, wr (graF m) = g := ⟨_, rfl⟩
  have HGR := Lib.hid hgr
  rw [hgr] at HG3 hglen ⊢
  clear hgr
  go_wp2_with fail
  refine Calls.mono (unknown_any a1 x a3 HX.out) ?_
  rintro e W4 ⟨f, hodd, hmd⟩
  obtain ⟨Ao, co, rfl, hdo, hbo⟩ := hmd.form
  have HODD := Lib.hid hodd
  have hol := hodd.len
  obtain ⟨od, hod⟩ : ∃ o, wr [f] = o := ⟨_, rfl⟩
  have HOD := Lib.hid hod
  rw [hod] at hdo hol ⊢
  have HDO := Lib.hid hdo
  have HDG := Lib.hid (HG3.out.past hbo)
  have HBO := Lib.hid hbo
  clear hmd hodd hod hdo hbo
  have hB := Nat.le_refl W4.heap.size
  go_wp2_with (first
    | (at_builtin; refine append_bytes rfl _ _ rfl HO53.out rfl od rfl rfl (HDO5.out.past HB53.out).rbb (by rw [List.length_append]; omega) hz53 ?_
       intro v55 w55 ho55 hg55 ha55
       have hb55 := grown_below HO53.out hg55 hz53 (Nat.le_refl _) HB53.out
       have hz55 := hb55.size
       have HB55 := Lib.hid hb55
       have HO55 := Lib.hid ho55
       obtain ⟨A55, n55, c55, rfl, hn55, hl55, hq55, hr55⟩ := ho55.form2
       clear ho55 hg55 ha55 hn55 hl55 hq55 hr55 hb55)
    | (at_builtin; refine append_bytes rfl _ _ rfl HO51.out rfl g rfl rfl (HDG5.out.past HB51.out).rbb (by omega) hz51 ?_
       intro v53 w53 ho53 hg53 ha53
       have hb53 := grown_below HO51.out hg53 hz51 (Nat.le_refl _) HB51.out
       have hz53 := hb53.size
       have HB53 := Lib.hid hb53
       have HO53 := Lib.hid ho53
       obtain ⟨A53, n53, c53, rfl, hn53, hl53, hq53, hr53⟩ := ho53.form2
       clear ho53 hg53 ha53 hn53 hl53 hq53 hr53 hb53)
    | (at_builtin; refine append_bytes rfl _ _ rfl (OB.made w5 w5.heap.size (Nat.le_refl _)) rfl od rfl rfl (HDO5.out.alloc _).rbb (by simp; omega) (by simp) ?_
       intro v51 w51 ho51 hg51 ha51
       have hb51 := grown_below (OB.made w5 w5.heap.size (Nat.le_refl _)) hg51 (by simp) (Nat.le_refl _) ((Below.refl w5.heap.size w5).alloc (Nat.le_refl _) _)
       have hz51 := hb51.size
       rw [List.nil_append] at ho51
       have HB51 := Lib.hid hb51
       have HO51 := Lib.hid ho51
       obtain ⟨A51, n51, c51, rfl, hn51, hl51, hq51, hr51⟩ := ho51.form2
       clear ho51 hg51 ha51 hn51 hl51 hq51 hr51 hb51)
    | (at_builtin; refine append_bytes rfl _ _ rfl (OB.nil W4 W4.heap.size) rfl od rfl rfl HDO.out.rbb (by simp; omega) (Nat.le_refl _) ?_
       intro v5 w5 ho5 hg5 ha5
       have hb5 := grown_below (OB.nil W4 W4.heap.size) hg5 (Nat.le_refl _) (Nat.le_refl _) (Below.refl W4.heap.size W4)
       have hz5 := hb5.size
       rw [List.nil_append] at ho5
       have HO5 := Lib.hid ho5
       have HBL5 := Lib.hid hb5
       have HDO5 := Lib.hid (HDO.out.past hb5)
       have HDG5 := Lib.hid (HDG.out.past hb5)
       obtain ⟨A5', n5, c5', rfl, hn5, hl5, hq5, hr5⟩ := ho5.form2
       clear ho5 hg5 ha5 hn5 hl5 hq5 hr5 hb5))
  have HM := Lib.hid (rmsg_any 7 (HO55.out.held (by simp only [List.length_append]; omega)) (by simp only [List.length_append]; omega))
  refine Calls.mono HM.out ?_
  rintro e w56 hmd
  obtain ⟨A56, c56, rfl, hd56, hb56⟩ := hmd.form
  have hb56' := HB55.out.trans (hb56.mono hz55)
  have hoc := HO5.out.below hb56' (Nat.le_refl _)
  have HB56 := Lib.hid (HBL5.out.trans (hb56'.mono hz5))
  have hz56 := hb56'.size
  have hm7 := msg_len 7 (od ++ g ++ od)
  have HD56 := Lib.hid hd56
  have HOC5 := Lib.hid hoc
  have HDO56 := Lib.hid (HDO5.out.past hb56')
  clear hmd hd56 hb56 hb56' hoc HM HO55 HB55 HO53 HB53 HO51 HB51 HDO5 HDG5 HO5 HBL5
  obtain ⟨m7, hm7e⟩ : ∃ x, msg 7 (od ++ g ++ od) = x := ⟨_, rfl⟩
  have HM7 := Lib.hid hm7e
  rw [hm7e] at HD56 hm7 ⊢
  clear hm7e
  go_wp2_with (first
    | (at_builtin; refine append_bytes rfl _ _ rfl HLIT.out rfl od rfl rfl (HDO60.out.alloc _).rbb (by simp; omega) (by simp) ?_
       intro v64 w64 ho64 hg64 ha64
       have hb64 := grown_below HLIT.out hg64 (by simp) (Nat.le_refl _) ((Below.refl w60.heap.size w60).alloc (Nat.le_refl _) _)
       have hz64 := hb64.size
       have HB64 := Lib.hid hb64
       have HO64 := Lib.hid ho64
       obtain ⟨A64, n64, c64, rfl, hn64, hl64, hq64, hr64⟩ := ho64.form2
       clear ho64 hg64 ha64 hn64 hl64 hq64 hr64 hb64)
    | (at_builtin; refine append_bytes rfl _ _ rfl HO57.out rfl od rfl rfl HDO57.out.rbb (by rw [List.length_append]; omega) (by omega) ?_
       intro v60 w60 ho60 hg60 ha60
       have hb60 := grown_below HO57.out hg60 (by omega) (by omega) HB57.out
       have hz60 := hb60.size
       have HB60 := Lib.hid hb60
       have HO60 := Lib.hid ho60
       have HDO60 := Lib.hid (HDO.out.past hb60)
       have HLIT := Lib.hid (ob_lit (w := w60) (base := w60.heap.size) [16, 17] rfl (Nat.le_refl _) (by simp))
       obtain ⟨A60, n60, c60, rfl, hn60, hl60, hq60, hr60⟩ := ho60.form2
       clear ho60 hg60 ha60 hn60 hl60 hq60 hr60 hb60)
    | (at_builtin; refine append_bytes rfl _ _ rfl HOC5.out rfl m7 rfl rfl HD56.out.rbb (by omega) (by omega) ?_
       intro v57 w57 ho57 hg57 ha57
       have hb57 := grown_below HOC5.out hg57 (by omega) (by omega) HB56.out
       have hz57 := hb57.size
       have HB57 := Lib.hid hb57
       have HO57 := Lib.hid ho57
       have HDO57 := Lib.hid (HDO.out.past hb57)
       obtain ⟨A57, n57, c57, rfl, hn57, hl57, hq57, hr57⟩ := ho57.form2
       clear ho57 hg57 ha57 hn57 hl57 hq57 hr57 hb57))
  have HM := Lib.hid (rmsg_any 8 (HO64.out.held (by simp; omega)) (by simp; omega))
  refine Calls.mono HM.out ?_
  rintro e w65 hmd
  obtain ⟨A65, c65, rfl, hd65, hb65⟩ := hmd.form
  have hb65' := HB64.out.trans (hb65.mono hz64)
  have hoc := HO60.out.below hb65' (Nat.le_refl _)
  have HB65 := Lib.hid (HB60.out.trans (hb65'.mono hz60))
  have hz65 := hb65'.size
  have hm8 := msg_len 8 ([16, 17] ++ od)
  obtain ⟨m8, hm8e⟩ : ∃ x, msg 8 ([16, 17] ++ od) = x := ⟨_, rfl⟩
  have HM8 := Lib.hid hm8e
  rw [hm8e] at hd65 hm8 ⊢
  clear hm8e hmd hb65 hb65' HM HO64 HB64 HLIT HO57 HB57 HDO57 HDO56 HOC5 HD56
  go_wp2_with (at_builtin; refine append_bytes rfl _ _ rfl hoc rfl m8 rfl rfl hd65.rbb (by rw [List.length_append, List.length_append]; omega) (by omega) ?_; intro v66 w66 ho66 hg66 ha66; obtain ⟨A66, n66, c66, rfl, hn66, hl66, hq66, hr66⟩ := ho66.form2)
  have HOC := Lib.hid ho66
  have HBC := Lib.hid (HBO.out.trans ((grown_below hoc hg66 (by omega) (by omega) HB65.out).mono HBO.out.size))
  have HLC : Hid ((((od ++ m7) ++ od) ++ m8).length ≤ 140737488355328) := Lib.hid (by simp only [List.length_append]; omega)
  have HDEC : Hid (decM (((od ++ m7) ++ od) ++ m8) = (m, 0)) := Lib.hid (by
    have := skip_back HR.out hbs HODD.out
    rw [HOD.out, HGR.out, HM7.out, HM8.out] at this
    exact this)
  clear ho66 hg66 ha66 hn66 hl66 hq66 hr66 hoc hd65 HO60 HB60 HDO60
  have HC8 := Lib.hid (decode_any (HOC.out.held HLC.out))
  rw [HDEC.out] at HC8
  refine Calls.mono HC8.out ?_
  rintro e W8 ⟨u8, rfl, hm8, hb8⟩
  obtain ⟨N1, n1, N2, n2, N3, n3, N4, n4, rfl, hl8⟩ := hm8.hl
  have HBW := Lib.hid (HB3.out.trans (HBC.out.mono HB3.out.size))
  have HB8 := Lib.hid (HBW.out.trans (hb8.mono HBW.out.size))
  have hblk := (HK3.out.below HBC.out HK3.out.lt).below hb8 (Nat.lt_of_lt_of_le HK3.out.lt HBC.out.size)
  have HSM := fun cz => Lib.hid (same_model (w := W8.alloc (.cells cz 32)) (HL0.out.keep (fun h => (h.past HB8.out).alloc _)) (hl8.keep (fun h => h.alloc _)))
  have HA8 := fun cz => Lib.hid (HB8.out.alloc HB8.out.size (.cells cz 32))
  rw [← HCS.out] at hblk
  obtain ⟨p0, p1, p2, p3, p4, p5, -, -, -, -, -, -, lp⟩ := blkc6 hblk
  clear hblk hl8 hm8 hb8 HC8
  go_wp2_with fail
  refine Calls.mono (HSM _).out ?_
  rintro e W9 ⟨rfl, hb9⟩
  have HF := Lib.hid ((HA8 _).out.trans (hb9.mono (HA8 _).out.size))
  clear hb9
  go_wp2
  go_ret
  exact ⟨rfl, HF.out⟩
/-! ### THE ROW's STEP -/
set_option maxRecDepth 100000 in
theorem lifted (os : Os) (started : os.Started) (H : Type) (enc : TypeId × Value → H) :
    ReturnsInHanded {} Try.checked os 6 .any (Rows.onnxSkipsSpec.pre6 enc Try.prog Try.f6 Rows.onnxSkipsRow.domain false) (Rows.onnxSkipsSpec.post enc Try.prog Try.f6 false true false false) := by
  refine returnsInHanded_of_change_sized (C := Try.checked) own started (by kernel_rfl) Try.func6
    (ChangeSpec.witness6 (enc := enc) (C := Try.checked) false ⟨#[], #[.agg #[.int .i64 0, .string ⟨#[]⟩, .slice none 0 0, .slice none 0 0, .slice none 0 0, .slice none 0 0], .int .i64 0, .int .u64 0, .bool false], []⟩ 8 (by kernel_rfl) (by kernel_rfl) (by kernel_rfl) (by kernel_rfl)) ?_
  intro W base args ds gs before hval0 hW hcnd hsz0 _
  have hval : ∀ (j : Nat) t v, Try.f6.params[j]? = some t → args[j]? = some v → Value.okWide Try.prog W .any base t v := hval0
  have hW' := hW
  obtain ⟨p, q, hA0, hV, rfl, hfz, hnd⟩ := hW
  have hA : DataW.TrodAll enc Try.prog W 0 (fun _ => true) true Try.f6.params.toList args.toList ds p := hA0
  have hsz : (DataW.weightsEach Try.prog (Try.f6.params.toList ++ Rows.onnxSkipsSpec.plain.varTypes Try.prog) (ds ++ gs)).all (· ≤ reachBytes) = true := hsz0
  rw [Try.params6] at hA hval hsz
  obtain ⟨v0, vs0, d0, ds0, p0, q0, hargs, rfl, rfl, h0, r0⟩ := trodAll_cons hA
  obtain ⟨v1, vs1, d1, ds1, p1, q1, rfl, rfl, rfl, h1, r1⟩ := trodAll_cons r0
  obtain ⟨v2, vs2, d2, ds2, p2, q2, rfl, rfl, rfl, h2, r2⟩ := trodAll_cons r1
  obtain ⟨v3, vs3, d3, ds3, p3, q3, rfl, rfl, rfl, h3, r3⟩ := trodAll_cons r2
  obtain ⟨rfl, rfl, rfl⟩ := trodAll_nil r3
  obtain rfl : args = #[v0, v1, v2, v3] := by cases args; simp_all
  obtain ⟨rfl, rfl⟩ := trodVars_none hV
  clear hA0 hval0 hsz0
  have k0 := h0
  have lt0 : ∀ x ∈ p0, x.block < W.heap.size := by obtain ⟨m, hm⟩ := k0; exact DataW.trod_lt m _ _ _ hm
  have wt0 : ∀ n ∈ d0.weights Try.prog 32, n ≤ reachBytes := fun n hn => by simpa using List.all_eq_true.1 hsz _ (DataW.weights_mem_each (j := 0) (t := 32) rfl rfl n hn)
  obtain ⟨m0, us0, rfl, hh0⟩ := open_model (hval 0 32 v0 rfl rfl) h0 wt0 (fun _ => rfl)
  obtain ⟨a1, rfl, rfl, rfl, w1⟩ := open_int Try.underlying3 (hval 1 3 v1 rfl rfl) h1
  obtain ⟨a2, rfl, rfl, rfl, w2⟩ := open_int Try.underlying42 (hval 2 42 v2 rfl rfl) h2
  obtain ⟨a3, rfl, rfl, rfl⟩ := open_bool Try.underlying4 (hval 3 4 v3 rfl rfl) h3
  refine (walk W m0 us0 hh0 a1 w1 a2 w2 a3).mono fun e W' ⟨he, bel⟩ => ?_
  subst he
  exact ⟨_, rfl, _, _, _, [], _, [], hW', trodAll_mk1 (shut_bool Try.underlying4 _), (trodAll_cons_mk (Below.trod laidOut (by kernel_rfl) (of_decide_eq_true (by kernel_rfl)) k0 bel lt0) (trodAll_cons_mk (shut_int Try.underlying3 w1) (trodAll_cons_mk (shut_int Try.underlying42 w2) (trodAll_cons_mk (shut_bool Try.underlying4 _) trodAll_mk0)))), rfl, bel.frame _, fun h => by cases h⟩

theorem over : Rows.onnxSkipsRow.holds Try.pinned (OpenSpec.ofChange Rows.onnxSkipsSpec) :=
  OpenClaim.holds_of_wide 6 Try.f6 rfl rfl rfl rfl rfl rfl rfl ⟨rfl, rfl, rfl, rfl, rfl⟩ rfl rfl rfl rfl rfl (by kernel_rfl) Try.func6 (by kernel_rfl)
    (of_decide_eq_true (by kernel_rfl)) (by unfold Func.isWrapper; first | (rw [if_pos (by decide +kernel)]; kernel_rfl) | (rw [if_neg (by decide +kernel)]; exact ⟨rfl, rfl⟩))
    (fun os started H enc _ => lifted os started H enc)

theorem proved : Rows.OnnxSkipsSaid := over
#print axioms proved
end Go.Proofs.Ytlhpmlknmgocoaa.onnxSkips
