/- The statement OnnxSplits: the graph in two fields. No condition. -/
import Derived.Test.YtlhpmlknmgocoaaOnPd
import Derived.Test.YtlhpmlknmgocoaaOnOp
namespace Go.Proofs.Ytlhpmlknmgocoaa.onnxSplits
set_option linter.unusedSimpArgs false
set_option linter.unusedVariables false
open Go.ChangeShapes Go.WideShapes Go.ChangeAt Go.RowKit
set_option linter.unusedVariables false

theorem and65535 (n : Int) : 0 ≤ bits .and .i64 n 65535 ∧ bits .and .i64 n 65535 ≤ 65535 := by
  have h1 : (BitVec.ofInt 64 65535).toNat = 2 ^ 16 - 1 := by decide
  have key : (BitVec.ofInt 64 n &&& BitVec.ofInt 64 65535).toNat = (n % ((2 ^ 64 : Nat) : Int)).toNat % 2 ^ 16 := by
    rw [BitVec.toNat_and, BitVec.toNat_ofInt, h1, Nat.and_two_pow_sub_one_eq_mod]
  have h2 : bits .and .i64 n 65535 = n % 65536 := by
    show IntKind.i64.wrap ((BitVec.ofInt 64 n &&& BitVec.ofInt 64 65535).toNat : Nat) = n % 65536
    rw [key, IntKind.wrap_i64]
    omega
  rw [h2]; omega
set_option maxRecDepth 100000 in
set_option maxHeartbeats 6400000 in
theorem walk (w : World) (m : Mo) (us : List Value) (hl : HL w (fun _ => True) (datM m) us) (a1 : Int) (w1 : (Lit.int .i64 a1).wf = true) :
    Calls Try.prog 7 #[.agg us.toArray, .int .i64 a1] w fun e w' => e = .returned (.bool true) ∧ Below w.heap.size w w' := by
  clear w1
  obtain ⟨A1, c1, A2, c2, A3, c3, A4, c4, rfl, -⟩ := hl.mod
  obtain ⟨cs, hcs⟩ : ∃ cs : Array Value, #[.int .i64 m.opset.toInt, .string ⟨m.name.toArray⟩, .slice A1 m.nodes.length c1, .slice A2 m.inits.length c2, .slice A3 m.inputs.length c3, .slice A4 m.outputs.length c4] = cs := ⟨_, rfl⟩
  have HL0 := Lib.hid hl
  have HB0 := Lib.hid (Blk.new w 32 cs)
  have HBL0 := Lib.hid ((Below.refl w.heap.size w).alloc (Nat.le_refl _) (.cells cs 32))
  have HAW := Lib.hid (oawake_any (w.alloc (.cells cs 32)))
  have HCS := Lib.hid hcs
  clear hcs hl
  go_enter Try.func7, Try.ntmps7
  go_wp2_with fail
  rw [HCS.out]
  refine Calls.mono HAW.out ?_
  rintro e W1 ⟨rfl, hb⟩
  have HB1 := Lib.hid (HBL0.out.trans (hb.mono HBL0.out.size))
  have hblk := HB0.out.below hb HB0.out.lt
  have HK1 := Lib.hid hblk
  rw [← HCS.out] at hblk
  obtain ⟨p0, p1, p2, p3, p4, p5, -, -, -, -, -, -, lp⟩ := blkc6 hblk
  have HC1 := Lib.hid (encode_any (HL0.out.keep (fun h => h.past HB1.out)))
  obtain ⟨⟨b, er⟩, hr⟩ : ∃ r, encM m = r := ⟨_, rfl⟩
  rw [hr] at HC1
  have HR := Lib.hid hr
  clear hb hblk HAW HB0 HBL0 hr
  go_wp2_with fail
  refine Calls.mono HC1.out ?_
  rintro e W2 ⟨u, rfl, hd, hb2⟩
  obtain ⟨A5, c5, rfl, -⟩ := Held.form1 hd
  have HC2 := Lib.hid (parts_any hd)
  have HB2 := Lib.hid (HB1.out.trans (hb2.mono HB1.out.size))
  have HK2 := Lib.hid (HK1.out.below hb2 HK1.out.lt)
  clear p0 p1 p2 p3 p4 p5 lp HC1 hd hb2
  dsimp only
  go_wp2_with fail
  refine Calls.mono HC2.out ?_
  rintro e W3 ⟨A6, c6, rfl, hg3, hb3⟩
  have HB3 := Lib.hid (HB2.out.trans (hb3.mono HB2.out.size))
  have HK3 := Lib.hid (HK2.out.below hb3 HK2.out.lt)
  have HG3 := Lib.hid hg3
  clear HC2 hg3 hb3
  by_cases he : er = 0
  case neg =>
    have e1 : (er == 0) = false := by simpa using he
    go_wp2
    go_ret
    exact ⟨rfl, HB3.out⟩
  subst he
  by_cases hbig : 2000000 < b.length
  case pos =>
    have hbig' : (2000000 : Int) < (b.length : Int) := by omega
    rw [prt_enc HR.out]
    dsimp only
    go_wp2
    go_ret
    exact ⟨rfl, HB3.out⟩
  have hbs : b.length ≤ 2000000 := by omega
  have hglen := gra_len HR.out
  have hbig' : ¬ (2000000 : Int) < (b.length : Int) := by omega
  rw [prt_enc HR.out] at HG3 ⊢
  dsimp only at HG3 ⊢
  have hrd := read_of (graF_ok m) (enc_ok HR.out).gra
  have hsp := split_back HR.out hbs
  have hTW := graF_ok m
  obtain ⟨g, hgr⟩ : ∃ g, wr (graF m) = g := ⟨_, rfl⟩
  have hjl : ∀ k, (wr ((graF m).take k)).length + (wr ((graF m).drop k)).length = (wr (graF m)).length := fun k => by rw [← List.length_append, ← wr_app, List.take_append_drop]
  rw [hgr] at HG3 hglen hrd hjl ⊢
  have hsm := dFields_len g
  have hf0 : (dFields g).1 = (readE g).1 := rfl
  rw [hf0, hrd] at hsm
  dsimp only at hsm
  obtain ⟨fs, hfs⟩ : ∃ fs, graF m = fs := ⟨_, rfl⟩
  rw [hfs] at hsp hrd hTW hsm hjl
  have HSP : ∀ k, Hid (∃ one two, writeE (fs.take k) = (one, 0) ∧ writeE (fs.drop k) = (two, 0) ∧ one.length ≤ 2000000 ∧ two.length ≤ 2000000 ∧ decM (((msg 8 [16, 17] ++ msg 7 one) ++ msg 8 [10, 1, 120, 16, 3]) ++ msg 7 two) = (m, 0)) := fun k => Lib.hid (by
    have := hjl k
    exact ⟨_, _, wr_ok (fun f hf => hTW f (List.mem_of_mem_take hf)) (by omega), wr_ok (fun f hf => hTW f (List.mem_of_mem_drop hf)) (by omega), by omega, by omega, hsp k⟩)
  have HWT : ∀ k, Hid (Wf64 (fs.take k)) := fun k => Lib.hid fun f hf => hsm.2.2 f (List.mem_of_mem_take hf)
  have HWD : ∀ k, Hid (Wf64 (fs.drop k)) := fun k => Lib.hid fun f hf => hsm.2.2 f (List.mem_of_mem_drop hf)
  have HDL : Hid (∀ f ∈ fs, f.data.length ≤ 140737488351232) := Lib.hid fun f hf => (hsm.2.2 f hf).2
  have hfl := hsm.1
  obtain ⟨A6', c6', e6, h62, h63, h64⟩ := HG3.out.dv
  injection e6 with e61 e62 e63
  subst e61 e63
  have HC4 := Lib.hid (rread_any A6 c6 g W3 h62 h63 h64)
  rw [hrd] at HC4
  have hq := and65535 a1
  generalize hbits : bits .and .i64 a1 65535 = q at *
  clear hgr hf0 hfs hsm hsp hrd hTW hjl e62 h62 h63 h64
  go_wp2_with fail
  refine Calls.mono HC4.out ?_
  rintro e W4 ⟨u4, rfl, ho4, hb4⟩
  dsimp only at ho4
  have hd4 := ho4.held (by omega) fun i hi => by
    have := HDL.out _ (List.getElem_mem hi)
    omega
  obtain ⟨A7, c7, rfl, hc7, hc7', hrf7⟩ := hd4.rf
  have HRF := Lib.hid hrf7
  have HB4 := Lib.hid (HB3.out.trans (hb4.mono HB3.out.size))
  have HK4 := Lib.hid (HK3.out.below hb4 HK3.out.lt)
  have HB34 := Lib.hid hb4
  unfold maxLen at hc7'
  clear HC4 ho4 hb4 hd4 hrf7 HDL
  obtain ⟨nf, hnf⟩ : ∃ nf, fs.length = nf := ⟨_, rfl⟩
  have HNF := Lib.hid hnf
  rw [hnf] at hfl hc7 ⊢
  clear hnf
  by_cases h0 : nf = 0
  · subst h0
    obtain ⟨one, two, hw1, hw2, hl1, hl2, hdec⟩ := (HSP 0).out
    have HC5 := Lib.hid (rwrite_any A7 c7 (fs.take 0) W4 (by unfold maxLen; omega) (by rw [List.length_take]; have := HNF.out; omega) (HRF.out.take 0) (HWT 0).out)
    rw [hw1] at HC5
    have hlt : (fs.take 0).length = 0 := by rw [List.length_take]; have := HNF.out; omega
    rw [hlt] at HC5
    have HC6 := fun (W5 : World) (hb : Below W4.heap.size W4 W5) => Lib.hid (rwrite_any (fcutA A7 c7 0) (c7 - 0) (fs.drop 0) W5 (by unfold maxLen; omega) (by rw [List.length_drop]; have := HNF.out; omega) (((HRF.out.cut (k := 0) (cap := c7) (by have := HNF.out; omega) (by have := HNF.out; omega)).below hb).more hb.size) (HWD 0).out)
    rw [hw2] at HC6
    have hld : (fs.drop 0).length = 0 - 0 := by rw [List.length_drop, HNF.out]
    rw [hld] at HC6
    have HDEC := Lib.hid hdec
    clear hlt hld hw1 hw2 hdec HSP HWT HWD
    go_wp2_with fail
    refine Calls.mono HC5.out ?_
    rintro e W5 ⟨u5, rfl, ho5, hb5⟩
    dsimp only at ho5
    have HD5 := Lib.hid (ho5.held (by omega))
    obtain ⟨A8, c8, rfl, -⟩ := Held.form1 HD5.out
    have HC6 := HC6 W5 hb5
    have HB5 := Lib.hid (HB34.out.trans (hb5.mono HB34.out.size))
    clear ho5 hb5 HC5
    go_wp2_with fail
    refine Calls.mono HC6.out ?_
    rintro e W6 ⟨u6, rfl, ho6, hb6⟩
    dsimp only at ho6
    have HD6 := Lib.hid (ho6.held (by omega))
    obtain ⟨A9, c9, rfl, -⟩ := Held.form1 HD6.out
    have HB6 := Lib.hid (HB5.out.trans (hb6.mono HB5.out.size))
    have HD56 := Lib.hid (HD5.out.past hb6)
    have HM1 := Lib.hid (rmsg_any 8 (held_byts (l := [16, 17]) (Blk.new W6 5 (byt [16, 17]).toArray) (by decide)) (by decide))
    have HA6 := Lib.hid ((Below.refl W6.heap.size W6).alloc (Nat.le_refl _) (.cells (byt [16, 17]).toArray 5))
    have hm1 := msg_len 8 [16, 17]
    have hm2 := msg_len 7 one
    have hm3 := msg_len 8 [10, 1, 120, 16, 3]
    have hm4 := msg_len 7 two
    clear ho6 hb6 HC6 HD5
    go_wp2_with fail
    refine Calls.mono HM1.out ?_
    rintro e W7 hmd
    obtain ⟨A10, c10, rfl, hd7, hb7⟩ := hmd.form
    have hb67 := HA6.out.trans (hb7.mono HA6.out.size)
    have hz7 := hb67.size
    clear hmd HM1 HA6 hb7
    go_wp2_with (at_builtin; refine append_bytes rfl _ _ rfl (OB.nil W7 W6.heap.size) rfl (msg 8 [16, 17]) rfl rfl hd7.rbb (by simp; omega) hz7 ?_; intro v8 w8 ho8 hg8 ha8; obtain ⟨A11, n11, c11, rfl, hn11, hl11, hq11, hr11⟩ := ho8.form2)
    rw [List.nil_append] at ho8
    have hb8 := grown_below (OB.nil W7 W6.heap.size) hg8 hz7 (Nat.le_refl _) hb67
    have HB8 := Lib.hid hb8
    have HO8 := Lib.hid ho8
    have hz8 := hb8.size
    have HM2 := Lib.hid (rmsg_any 7 (HD56.out.past hb8) (by omega))
    clear hd7 hb67 ho8 hg8 ha8 hn11 hl11 hq11 hr11 hb8
    refine Calls.mono HM2.out ?_
    rintro e W9 hmd
    obtain ⟨A12, c12, rfl, hd9, hb9⟩ := hmd.form
    have hb69 := HB8.out.trans (hb9.mono hz8)
    have hz9 := hb69.size
    have ho9 := HO8.out.below hb9 (Nat.le_refl _)
    clear hmd HM2 hb9 HO8 HB8
    go_wp2_with (at_builtin; refine append_bytes rfl _ _ rfl ho9 rfl (msg 7 one) rfl rfl hd9.rbb (by omega) hz9 ?_; intro v10 w10 ho10 hg10 ha10; obtain ⟨A13, n13, c13, rfl, hn13, hl13, hq13, hr13⟩ := ho10.form2)
    have hb10 := grown_below ho9 hg10 hz9 (Nat.le_refl _) hb69
    have hz10 := hb10.size
    have HM3 := Lib.hid (rmsg_any 8 (held_byts (l := [10, 1, 120, 16, 3]) (Blk.new w10 5 (byt [10, 1, 120, 16, 3]).toArray) (by decide)) (by decide))
    have HA10 := Lib.hid ((Below.refl w10.heap.size w10).alloc (Nat.le_refl _) (.cells (byt [10, 1, 120, 16, 3]).toArray 5))
    have HB10 := Lib.hid hb10
    have HO10 := Lib.hid ho10
    clear hd9 hb69 ho9 ho10 hg10 ha10 hn13 hl13 hq13 hr13 hb10
    refine Calls.mono HM3.out ?_
    rintro e W11 hmd
    obtain ⟨A14, c14, rfl, hd11, hb11⟩ := hmd.form
    have hb1011 := HA10.out.trans (hb11.mono HA10.out.size)
    have hb611 := HB10.out.trans (hb1011.mono hz10)
    have hz11 := hb611.size
    have ho11 := HO10.out.below hb1011 (Nat.le_refl _)
    clear hmd HM3 hb11 hb1011 HO10 HB10 HA10
    go_wp2_with (at_builtin; refine append_bytes rfl _ _ rfl ho11 rfl (msg 8 [10, 1, 120, 16, 3]) rfl rfl hd11.rbb (by rw [List.length_append]; omega) hz11 ?_; intro v12 w12 ho12 hg12 ha12; obtain ⟨A15, n15, c15, rfl, hn15, hl15, hq15, hr15⟩ := ho12.form2)
    have hb12 := grown_below ho11 hg12 hz11 (Nat.le_refl _) hb611
    have hz12 := hb12.size
    have HM4 := Lib.hid (rmsg_any 7 (HD6.out.past hb12) (by omega))
    have HB12 := Lib.hid hb12
    have HO12 := Lib.hid ho12
    clear hd11 hb611 ho11 ho12 hg12 ha12 hn15 hl15 hq15 hr15 hb12
    refine Calls.mono HM4.out ?_
    rintro e W13 hmd
    obtain ⟨A16, c16, rfl, hd13, hb13⟩ := hmd.form
    have hb613 := HB12.out.trans (hb13.mono hz12)
    have hz13 := hb613.size
    have ho13 := HO12.out.below hb13 (Nat.le_refl _)
    clear hmd HM4 hb13 HO12 HB12
    go_wp2_with (at_builtin; refine append_bytes rfl _ _ rfl ho13 rfl (msg 7 two) rfl rfl hd13.rbb (by rw [List.length_append, List.length_append]; omega) hz13 ?_; intro v14 w14 ho14 hg14 ha14; obtain ⟨A17, n17, c17, rfl, hn17, hl17, hq17, hr17⟩ := ho14.form2)
    have HOC := Lib.hid ho14
    have HBC := Lib.hid (HB6.out.trans ((grown_below ho13 hg14 hz13 (Nat.le_refl _) hb613).mono HB6.out.size))
    have HLC : Hid ((((msg 8 [16, 17] ++ msg 7 one) ++ msg 8 [10, 1, 120, 16, 3]) ++ msg 7 two).length ≤ 140737488355328) := Lib.hid (by simp only [List.length_append]; omega)
    clear ho14 hg14 ha14 hn17 hl17 hq17 hr17 ho13 hd13 hb613 HD6 HD56
    have HC8 := Lib.hid (decode_any (HOC.out.held HLC.out))
    rw [HDEC.out] at HC8
    refine Calls.mono HC8.out ?_
    rintro e W8 ⟨u8, rfl, hm8, hb8⟩
    obtain ⟨N1, n1, N2, n2, N3, n3, N4, n4, rfl, hl8⟩ := hm8.hl
    have HBW := Lib.hid (HB3.out.trans (HBC.out.mono HB3.out.size))
    have HB8 := Lib.hid (HBW.out.trans (hb8.mono HBW.out.size))
    have hblk := (HK3.out.below HBC.out HK3.out.lt).below hb8 (Nat.lt_of_lt_of_le HK3.out.lt HBC.out.size)
    have HSM := fun cz => Lib.hid (same_model (w := W8.alloc (.cells cz 32)) (HL0.out.keep (fun h => (h.past HB8.out).alloc _)) (hl8.keep (fun h => h.alloc _)))
    have HA8 := fun cz => Lib.hid (HB8.out.alloc HB8.out.size (.cells cz 32))
    rw [← HCS.out] at hblk
    obtain ⟨p0, p1, p2, p3, p4, p5, -, -, -, -, -, -, lp⟩ := blkc6 hblk
    clear hblk hl8 hm8 hb8 HC8
    go_wp2_with fail
    refine Calls.mono (HSM _).out ?_
    rintro e W9 ⟨rfl, hb9⟩
    have HF := Lib.hid ((HA8 _).out.trans (hb9.mono (HA8 _).out.size))
    clear hb9
    go_wp2
    go_ret
    exact ⟨rfl, HF.out⟩
  · have hq1 : Int.tmod q ((nf : Int) + 1) = q % ((nf : Int) + 1) := Int.tmod_eq_emod_of_nonneg hq.1
    have hq2 := Int.emod_nonneg q (b := (nf : Int) + 1) (by omega)
    have hq3 := Int.emod_lt_of_pos q (b := (nf : Int) + 1) (by omega)
    obtain ⟨kk, hkk⟩ : ∃ kk : Nat, q % ((nf : Int) + 1) = (kk : Int) := ⟨(q % ((nf : Int) + 1)).toNat, by omega⟩
    rw [hkk] at hq1 hq2 hq3
    have hkn : kk ≤ nf := by omega
    clear hkk
    obtain ⟨one, two, hw1, hw2, hl1, hl2, hdec⟩ := (HSP kk).out
    have HC5 := Lib.hid (rwrite_any A7 c7 (fs.take kk) W4 (by unfold maxLen; omega) (by rw [List.length_take]; have := HNF.out; omega) (HRF.out.take kk) (HWT kk).out)
    rw [hw1] at HC5
    have hlt : (fs.take kk).length = kk := by rw [List.length_take]; have := HNF.out; omega
    rw [hlt] at HC5
    have HC6 := fun (W5 : World) (hb : Below W4.heap.size W4 W5) => Lib.hid (rwrite_any (fcutA A7 c7 kk) (c7 - kk) (fs.drop kk) W5 (by unfold maxLen; omega) (by rw [List.length_drop]; have := HNF.out; omega) (((HRF.out.cut (k := kk) (cap := c7) (by have := HNF.out; omega) (by have := HNF.out; omega)).below hb).more hb.size) (HWD kk).out)
    rw [hw2] at HC6
    have hld : (fs.drop kk).length = nf - kk := by rw [List.length_drop, HNF.out]
    rw [hld] at HC6
    have HDEC := Lib.hid hdec
    clear hlt hld hw1 hw2 hdec HSP HWT HWD
    go_wp2_with fail
    refine Calls.mono HC5.out ?_
    rintro e W5 ⟨u5, rfl, ho5, hb5⟩
    dsimp only at ho5
    have HD5 := Lib.hid (ho5.held (by omega))
    obtain ⟨A8, c8, rfl, -⟩ := Held.form1 HD5.out
    have HC6 := HC6 W5 hb5
    have HB5 := Lib.hid (HB34.out.trans (hb5.mono HB34.out.size))
    clear ho5 hb5 HC5
    go_wp2_with fail
    refine Calls.mono HC6.out ?_
    rintro e W6 ⟨u6, rfl, ho6, hb6⟩
    dsimp only at ho6
    have HD6 := Lib.hid (ho6.held (by omega))
    obtain ⟨A9, c9, rfl, -⟩ := Held.form1 HD6.out
    have HB6 := Lib.hid (HB5.out.trans (hb6.mono HB5.out.size))
    have HD56 := Lib.hid (HD5.out.past hb6)
    have HM1 := Lib.hid (rmsg_any 8 (held_byts (l := [16, 17]) (Blk.new W6 5 (byt [16, 17]).toArray) (by decide)) (by decide))
    have HA6 := Lib.hid ((Below.refl W6.heap.size W6).alloc (Nat.le_refl _) (.cells (byt [16, 17]).toArray 5))
    have hm1 := msg_len 8 [16, 17]
    have hm2 := msg_len 7 one
    have hm3 := msg_len 8 [10, 1, 120, 16, 3]
    have hm4 := msg_len 7 two
    clear ho6 hb6 HC6 HD5
    go_wp2_with fail
    refine Calls.mono HM1.out ?_
    rintro e W7 hmd
    obtain ⟨A10, c10, rfl, hd7, hb7⟩ := hmd.form
    have hb67 := HA6.out.trans (hb7.mono HA6.out.size)
    have hz7 := hb67.size
    clear hmd HM1 HA6 hb7
    go_wp2_with (at_builtin; refine append_bytes rfl _ _ rfl (OB.nil W7 W6.heap.size) rfl (msg 8 [16, 17]) rfl rfl hd7.rbb (by simp; omega) hz7 ?_; intro v8 w8 ho8 hg8 ha8; obtain ⟨A11, n11, c11, rfl, hn11, hl11, hq11, hr11⟩ := ho8.form2)
    rw [List.nil_append] at ho8
    have hb8 := grown_below (OB.nil W7 W6.heap.size) hg8 hz7 (Nat.le_refl _) hb67
    have HB8 := Lib.hid hb8
    have HO8 := Lib.hid ho8
    have hz8 := hb8.size
    have HM2 := Lib.hid (rmsg_any 7 (HD56.out.past hb8) (by omega))
    clear hd7 hb67 ho8 hg8 ha8 hn11 hl11 hq11 hr11 hb8
    refine Calls.mono HM2.out ?_
    rintro e W9 hmd
    obtain ⟨A12, c12, rfl, hd9, hb9⟩ := hmd.form
    have hb69 := HB8.out.trans (hb9.mono hz8)
    have hz9 := hb69.size
    have ho9 := HO8.out.below hb9 (Nat.le_refl _)
    clear hmd HM2 hb9 HO8 HB8
    go_wp2_with (at_builtin; refine append_bytes rfl _ _ rfl ho9 rfl (msg 7 one) rfl rfl hd9.rbb (by omega) hz9 ?_; intro v10 w10 ho10 hg10 ha10; obtain ⟨A13, n13, c13, rfl, hn13, hl13, hq13, hr13⟩ := ho10.form2)
    have hb10 := grown_below ho9 hg10 hz9 (Nat.le_refl _) hb69
    have hz10 := hb10.size
    have HM3 := Lib.hid (rmsg_any 8 (held_byts (l := [10, 1, 120, 16, 3]) (Blk.new w10 5 (byt [10, 1, 120, 16, 3]).toArray) (by decide)) (by decide))
    have HA10 := Lib.hid ((Below.refl w10.heap.size w10).alloc (Nat.le_refl _) (.cells (byt [10, 1, 120, 16, 3]).toArray 5))
    have HB10 := Lib.hid hb10
    have HO10 := Lib.hid ho10
    clear hd9 hb69 ho9 ho10 hg10 ha10 hn13 hl13 hq13 hr13 hb10
    refine Calls.mono HM3.out ?_
    rintro e W11 hmd
    obtain ⟨A14, c14, rfl, hd11, hb11⟩ := hmd.form
    have hb1011 := HA10.out.trans (hb11.mono HA10.out.size)
    have hb611 := HB10.out.trans (hb1011.mono hz10)
    have hz11 := hb611.size
    have ho11 := HO10.out.below hb1011 (Nat.le_refl _)
    clear hmd HM3 hb11 hb1011 HO10 HB10 HA10
    go_wp2_with (at_builtin; refine append_bytes rfl _ _ rfl ho11 rfl (msg 8 [10, 1, 120, 16, 3]) rfl rfl hd11.rbb (by rw [List.length_append]; omega) hz11 ?_; intro v12 w12 ho12 hg12 ha12; obtain ⟨A15, n15, c15, rfl, hn15, hl15, hq15, hr15⟩ := ho12.form2)
    have hb12 := grown_below ho11 hg12 hz11 (Nat.le_refl _) hb611
    have hz12 := hb12.size
    have HM4 := Lib.hid (rmsg_any 7 (HD6.out.past hb12) (by omega))
    have HB12 := Lib.hid hb12
    have HO12 := Lib.hid ho12
    clear hd11 hb611 ho11 ho12 hg12 ha12 hn15 hl15 hq15 hr15 hb12
    refine Calls.mono HM4.out ?_
    rintro e W13 hmd
    obtain ⟨A16, c16, rfl, hd13, hb13⟩ := hmd.form
    have hb613 := HB12.out.trans (hb13.mono hz12)
    have hz13 := hb613.size
    have ho13 := HO12.out.below hb13 (Nat.le_refl _)
    clear hmd HM4 hb13 HO12 HB12
    go_wp2_with (at_builtin; refine append_bytes rfl _ _ rfl ho13 rfl (msg 7 two) rfl rfl hd13.rbb (by rw [List.length_append, List.length_append]; omega) hz13 ?_; intro v14 w14 ho14 hg14 ha14; obtain ⟨A17, n17, c17, rfl, hn17, hl17, hq17, hr17⟩ := ho14.form2)
    have HOC := Lib.hid ho14
    have HBC := Lib.hid (HB6.out.trans ((grown_below ho13 hg14 hz13 (Nat.le_refl _) hb613).mono HB6.out.size))
    have HLC : Hid ((((msg 8 [16, 17] ++ msg 7 one) ++ msg 8 [10, 1, 120, 16, 3]) ++ msg 7 two).length ≤ 140737488355328) := Lib.hid (by simp only [List.length_append]; omega)
    clear ho14 hg14 ha14 hn17 hl17 hq17 hr17 ho13 hd13 hb613 HD6 HD56
    have HC8 := Lib.hid (decode_any (HOC.out.held HLC.out))
    rw [HDEC.out] at HC8
    refine Calls.mono HC8.out ?_
    rintro e W8 ⟨u8, rfl, hm8, hb8⟩
    obtain ⟨N1, n1, N2, n2, N3, n3, N4, n4, rfl, hl8⟩ := hm8.hl
    have HBW := Lib.hid (HB3.out.trans (HBC.out.mono HB3.out.size))
    have HB8 := Lib.hid (HBW.out.trans (hb8.mono HBW.out.size))
    have hblk := (HK3.out.below HBC.out HK3.out.lt).below hb8 (Nat.lt_of_lt_of_le HK3.out.lt HBC.out.size)
    have HSM := fun cz => Lib.hid (same_model (w := W8.alloc (.cells cz 32)) (HL0.out.keep (fun h => (h.past HB8.out).alloc _)) (hl8.keep (fun h => h.alloc _)))
    have HA8 := fun cz => Lib.hid (HB8.out.alloc HB8.out.size (.cells cz 32))
    rw [← HCS.out] at hblk
    obtain ⟨p0, p1, p2, p3, p4, p5, -, -, -, -, -, -, lp⟩ := blkc6 hblk
    clear hblk hl8 hm8 hb8 HC8
    go_wp2_with fail
    refine Calls.mono (HSM _).out ?_
    rintro e W9 ⟨rfl, hb9⟩
    have HF := Lib.hid ((HA8 _).out.trans (hb9.mono (HA8 _).out.size))
    clear hb9
    go_wp2
    go_ret
    exact ⟨rfl, HF.out⟩
/-! ### THE ROW's STEP -/
set_option maxRecDepth 100000 in
theorem lifted (os : Os) (started : os.Started) (H : Type) (enc : TypeId × Value → H) :
    ReturnsInHanded {} Try.checked os 7 .any (Rows.onnxSplitsSpec.pre6 enc Try.prog Try.f7 Rows.onnxSplitsRow.domain false) (Rows.onnxSplitsSpec.post enc Try.prog Try.f7 false true false false) := by
  refine returnsInHanded_of_change_sized (C := Try.checked) own started (by kernel_rfl) Try.func7
    (ChangeSpec.witness6 (enc := enc) (C := Try.checked) false ⟨#[], #[.agg #[.int .i64 0, .string ⟨#[]⟩, .slice none 0 0, .slice none 0 0, .slice none 0 0, .slice none 0 0], .int .i64 0], []⟩ 8 (by kernel_rfl) (by kernel_rfl) (by kernel_rfl) (by kernel_rfl)) ?_
  intro W base args ds gs before hval0 hW hcnd hsz0 _
  have hval : ∀ (j : Nat) t v, Try.f7.params[j]? = some t → args[j]? = some v → Value.okWide Try.prog W .any base t v := hval0
  have hW' := hW
  obtain ⟨p, q, hA0, hV, rfl, hfz, hnd⟩ := hW
  have hA : DataW.TrodAll enc Try.prog W 0 (fun _ => true) true Try.f7.params.toList args.toList ds p := hA0
  have hsz : (DataW.weightsEach Try.prog (Try.f7.params.toList ++ Rows.onnxSplitsSpec.plain.varTypes Try.prog) (ds ++ gs)).all (· ≤ reachBytes) = true := hsz0
  rw [Try.params7] at hA hval hsz
  obtain ⟨v0, vs0, d0, ds0, p0, q0, hargs, rfl, rfl, h0, r0⟩ := trodAll_cons hA
  obtain ⟨v1, vs1, d1, ds1, p1, q1, rfl, rfl, rfl, h1, r1⟩ := trodAll_cons r0
  obtain ⟨rfl, rfl, rfl⟩ := trodAll_nil r1
  obtain rfl : args = #[v0, v1] := by cases args; simp_all
  obtain ⟨rfl, rfl⟩ := trodVars_none hV
  clear hA0 hval0 hsz0
  have k0 := h0
  have lt0 : ∀ x ∈ p0, x.block < W.heap.size := by obtain ⟨m, hm⟩ := k0; exact DataW.trod_lt m _ _ _ hm
  have wt0 : ∀ n ∈ d0.weights Try.prog 32, n ≤ reachBytes := fun n hn => by simpa using List.all_eq_true.1 hsz _ (DataW.weights_mem_each (j := 0) (t := 32) rfl rfl n hn)
  obtain ⟨m0, us0, rfl, hh0⟩ := open_model (hval 0 32 v0 rfl rfl) h0 wt0 (fun _ => rfl)
  obtain ⟨a1, rfl, rfl, rfl, w1⟩ := open_int Try.underlying3 (hval 1 3 v1 rfl rfl) h1
  refine (walk W m0 us0 hh0 a1 w1).mono fun e W' ⟨he, bel⟩ => ?_
  subst he
  exact ⟨_, rfl, _, _, _, [], _, [], hW', trodAll_mk1 (shut_bool Try.underlying4 _), (trodAll_cons_mk (Below.trod laidOut (by kernel_rfl) (of_decide_eq_true (by kernel_rfl)) k0 bel lt0) (trodAll_cons_mk (shut_int Try.underlying3 w1) trodAll_mk0)), rfl, bel.frame _, fun h => by cases h⟩

theorem over : Rows.onnxSplitsRow.holds Try.pinned (OpenSpec.ofChange Rows.onnxSplitsSpec) :=
  OpenClaim.holds_of_wide 7 Try.f7 rfl rfl rfl rfl rfl rfl rfl ⟨rfl, rfl, rfl, rfl, rfl⟩ rfl rfl rfl rfl rfl (by kernel_rfl) Try.func7 (by kernel_rfl)
    (of_decide_eq_true (by kernel_rfl)) (by unfold Func.isWrapper; first | (rw [if_pos (by decide +kernel)]; kernel_rfl) | (rw [if_neg (by decide +kernel)]; exact ⟨rfl, rfl⟩))
    (fun os started H enc _ => lifted os started H enc)

theorem proved : Rows.OnnxSplitsSaid := over
#print axioms proved
end Go.Proofs.Ytlhpmlknmgocoaa.onnxSplits
