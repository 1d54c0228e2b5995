/- The statement OnnxEncodes: for any model, Check and Encode answer what the document says, and the model stays. No condition. -/
import Derived.Test.YtlhpmlknmgocoaaGreatOnAw
import Derived.Test.YtlhpmlknmgocoaaGreatMF3
import Derived.Test.YtlhpmlknmgocoaaGreatOnOq
namespace Go.Proofs.YtlhpmlknmgocoaaGreat.onnxEncodes
set_option linter.unusedSimpArgs false
set_option linter.unusedVariables false
open Go.ChangeShapes Go.WideShapes Go.ChangeAt Go.RowKit
set_option linter.unusedVariables false

set_option maxRecDepth 100000 in
set_option maxHeartbeats 6400000 in
theorem walk (w : World) (m : Mo) (us : List Value) (hl : HL w (fun _ => True) (datM m) us) :
    Calls Tryz.prog 3 #[.agg us.toArray] w fun e w' => e = .returned (.bool true) ∧ Below w.heap.size w w' := by
  obtain ⟨A1, c1, A2, c2, A3, c3, A4, c4, rfl, -⟩ := hl.mod
  obtain ⟨cs, hcs⟩ : ∃ cs : Array Value, #[.int .i64 m.opset.toInt, .string ⟨m.name.toArray⟩, .slice A1 m.nodes.length c1, .slice A2 m.inits.length c2, .slice A3 m.inputs.length c3, .slice A4 m.outputs.length c4] = cs := ⟨_, rfl⟩
  have HL0 := Lib.hid hl
  have HB0 := Lib.hid (Blk.new w 26 cs)
  have HBL0 := Lib.hid ((Below.refl w.heap.size w).alloc (Nat.le_refl _) (.cells cs 26))
  have HAW := Lib.hid (oawake_any (w.alloc (.cells cs 26)))
  have HCS := Lib.hid hcs
  obtain ⟨⟨b, er⟩, hr⟩ : ∃ r, encM m = r := ⟨_, rfl⟩
  have HLEN : Hid (b.length ≤ 4194304) := Lib.hid (by
    have h : (encM m).1.length ≤ 4194304 := by
      unfold encM
      split
      · simp
      · split
        · simp
        · exact writeE_len _
    rwa [hr] at h)
  have HR := Lib.hid hr
  clear hcs hl hr
  go_enter Tryz.func3, Tryz.ntmps3
  go_wp2_with fail
  rw [HCS.out]
  refine Calls.mono HAW.out ?_
  rintro e W1 ⟨rfl, hb⟩
  have HB1 := Lib.hid (HBL0.out.trans (hb.mono HBL0.out.size))
  have HK1 := Lib.hid (HB0.out.below hb HB0.out.lt)
  have hblk := HK1.out
  rw [← HCS.out] at hblk
  obtain ⟨p0, p1, p2, p3, p4, p5, -, -, -, -, -, -, lp⟩ := blkc6 hblk
  have HC1 := Lib.hid (fencode_any (HL0.out.keep (fun h => h.past HB1.out)))
  rw [HR.out] at HC1
  clear hb hblk HAW HB0 HBL0
  go_wp2_with fail
  refine Calls.mono HC1.out ?_
  rintro e W2 ⟨u2, rfl, hd2, hb2⟩
  obtain ⟨A5, c5, rfl, -⟩ := Held.form1 hd2
  have HD2 := Lib.hid hd2
  have HB2 := Lib.hid (HB1.out.trans (hb2.mono HB1.out.size))
  have HK2 := Lib.hid (HK1.out.below hb2 HK1.out.lt)
  have hblk := HK2.out
  rw [← HCS.out] at hblk
  clear p0 p1 p2 p3 p4 p5 lp HC1 hd2 hb2
  obtain ⟨p0, p1, p2, p3, p4, p5, -, -, -, -, -, -, lp⟩ := blkc6 hblk
  have HC2 := Lib.hid (check_any (HL0.out.keep (fun h => h.past HB2.out)))
  obtain ⟨ck, hck⟩ : ∃ x, chk false m = x := ⟨_, rfl⟩
  rw [hck] at HC2
  have HCK := Lib.hid hck
  clear hblk hck
  try dsimp only
  go_wp2_with fail
  refine Calls.mono HC2.out ?_
  rintro e W3 ⟨rfl, hb3⟩
  have HB3 := Lib.hid (HB2.out.trans (hb3.mono HB2.out.size))
  have HD3 := Lib.hid (HD2.out.past hb3)
  have HK3 := Lib.hid (HK2.out.below hb3 HK2.out.lt)
  have hblk := HK3.out
  rw [← HCS.out] at hblk
  clear p0 p1 p2 p3 p4 p5 lp HC2 hb3 HD2
  obtain ⟨p0, p1, p2, p3, p4, p5, -, -, -, -, -, -, lp⟩ := blkc6 hblk
  have HC3 := Lib.hid (encode_any (HL0.out.keep (fun h => h.past HB3.out)))
  rw [HR.out] at HC3
  clear hblk
  go_wp2_with fail
  refine Calls.mono HC3.out ?_
  rintro e W4 ⟨u4, rfl, hd4, hb4⟩
  obtain ⟨A7, c7, rfl, -⟩ := Held.form1 hd4
  have HB4 := Lib.hid (HB3.out.trans (hb4.mono HB3.out.size))
  have HD4 := Lib.hid (HD3.out.past hb4)
  have HE4 := Lib.hid hd4
  have HK4 := Lib.hid (HK3.out.below hb4 HK3.out.lt)
  have hblk := HK4.out
  rw [← HCS.out] at hblk
  clear p0 p1 p2 p3 p4 p5 lp HC3 hb4 HD3 hd4
  obtain ⟨p0, p1, p2, p3, p4, p5, -, -, -, -, -, -, lp⟩ := blkc6 hblk
  have HC4 := Lib.hid (fencode_any (HL0.out.keep (fun h => h.past HB4.out)))
  rw [HR.out] at HC4
  clear hblk
  go_wp2_with fail
  refine Calls.mono HC4.out ?_
  rintro e W5 ⟨u5, rfl, hd5, hb5⟩
  obtain ⟨A9, c9, rfl, -⟩ := Held.form1 hd5
  have HB5 := Lib.hid (HB4.out.trans (hb5.mono HB4.out.size))
  have HD5 := Lib.hid (HD4.out.past hb5)
  have HE5 := Lib.hid (HE4.out.past hb5)
  have HF5 := Lib.hid hd5
  have HK5 := Lib.hid (HK4.out.below hb5 HK4.out.lt)
  have hblk := HK5.out
  rw [← HCS.out] at hblk
  clear p0 p1 p2 p3 p4 p5 lp HC4 hb5 HD4 HE4 hd5
  obtain ⟨p0, p1, p2, p3, p4, p5, -, -, -, -, -, -, lp⟩ := blkc6 hblk
  have HC5 := Lib.hid (fcheck_any (HL0.out.keep (fun h => h.past HB5.out)))
  rw [HCK.out] at HC5
  clear hblk
  go_wp2_with fail
  refine Calls.mono HC5.out ?_
  rintro e W6 ⟨rfl, hb6⟩
  have HB6 := Lib.hid (HB5.out.trans (hb6.mono HB5.out.size))
  obtain ⟨X1, x1, e1, -, -, r1⟩ := (HD5.out.past hb6).dv
  obtain ⟨X2, x2, e2, -, -, r2⟩ := (HE5.out.past hb6).dv
  obtain ⟨X3, x3, e3, -, -, r3⟩ := (HF5.out.past hb6).dv
  injection e1 with e1 e1' e1''
  injection e2 with e2 e2' e2''
  injection e3 with e3 e3' e3''
  rw [← e1] at r1
  rw [← e2] at r2
  rw [← e3] at r3
  try dsimp only at r1 r2 r3
  have HC6 := Lib.hid (sameb_eq (cap := c7) (cap' := c9) r2 r3 (by have := HLEN.out; unfold maxLen; omega))
  have HC7 := fun n => Lib.hid (sameb_eq (cap := c5) (cap' := c9) (r1.drewN n) (r3.drewN n) (by have := HLEN.out; unfold maxLen; omega))
  clear e1 e1' e1'' e2 e2' e2'' e3 e3' e3'' r1 r2 r3 p0 p1 p2 p3 p4 p5 lp HC5 hb6
  try dsimp only
  go_wp2_with fail
  refine Calls.mono HC6.out ?_
  rintro e w' ⟨rfl, n1, rfl⟩
  go_wp2_with fail
  refine Calls.mono (HC7 n1).out ?_
  rintro e w' ⟨rfl, n2, rfl⟩
  go_wp2
  go_ret
  exact ⟨rfl, below_drewN HB6.out _⟩
/-! ### THE ROW's STEP -/
set_option maxRecDepth 100000 in
theorem lifted (os : Os) (started : os.Started) (H : Type) (enc : TypeId × Value → H) :
    ReturnsInHanded {} Tryz.checked os 3 .any (Rows.onnxEncodesSpec.pre6 enc Tryz.prog Tryz.f3 Rows.onnxEncodesRow.domain false) (Rows.onnxEncodesSpec.post enc Tryz.prog Tryz.f3 false true false false) := by
  refine returnsInHanded_of_change_sized (C := Tryz.checked) own started (by kernel_rfl) Tryz.func3
    (ChangeSpec.witness6 (enc := enc) (C := Tryz.checked) false ⟨#[], #[.agg #[.int .i64 0, .string ⟨#[]⟩, .slice none 0 0, .slice none 0 0, .slice none 0 0, .slice none 0 0]], []⟩ 8 (by kernel_rfl) (by kernel_rfl) (by kernel_rfl) (by kernel_rfl)) ?_
  intro W base args ds gs before hval0 hW hcnd hsz0 _
  have hval : ∀ (j : Nat) t v, Tryz.f3.params[j]? = some t → args[j]? = some v → Value.okWide Tryz.prog W .any base t v := hval0
  have hW' := hW
  obtain ⟨p, q, hA0, hV, rfl, hfz, hnd⟩ := hW
  have hA : DataW.TrodAll enc Tryz.prog W 0 (fun _ => true) true Tryz.f3.params.toList args.toList ds p := hA0
  have hsz : (DataW.weightsEach Tryz.prog (Tryz.f3.params.toList ++ Rows.onnxEncodesSpec.plain.varTypes Tryz.prog) (ds ++ gs)).all (· ≤ reachBytes) = true := hsz0
  rw [Tryz.params3] at hA hval hsz
  obtain ⟨v0, vs0, d0, ds0, p0, q0, hargs, rfl, rfl, h0, r0⟩ := trodAll_cons hA
  obtain ⟨rfl, rfl, rfl⟩ := trodAll_nil r0
  obtain rfl : args = #[v0] := by cases args; simp_all
  obtain ⟨rfl, rfl⟩ := trodVars_none hV
  clear hA0 hval0 hsz0
  have k0 := h0
  have lt0 : ∀ x ∈ p0, x.block < W.heap.size := by obtain ⟨m, hm⟩ := k0; exact DataW.trod_lt m _ _ _ hm
  have wt0 : ∀ n ∈ d0.weights Tryz.prog 26, n ≤ reachBytes := fun n hn => by simpa using List.all_eq_true.1 hsz _ (DataW.weights_mem_each (j := 0) (t := 26) rfl rfl n hn)
  obtain ⟨m0, us0, rfl, hh0⟩ := open_model (hval 0 26 v0 rfl rfl) h0 wt0 (fun _ => rfl)
  refine (walk W m0 us0 hh0).mono fun e W' ⟨he, bel⟩ => ?_
  subst he
  exact ⟨_, rfl, _, _, _, [], _, [], hW', trodAll_mk1 (shut_bool Tryz.underlying4 _), (trodAll_cons_mk (Below.trod laidOut (by kernel_rfl) (of_decide_eq_true (by kernel_rfl)) k0 bel lt0) trodAll_mk0), rfl, bel.frame _, fun h => by cases h⟩

theorem over : Rows.onnxEncodesRow.holds Tryz.pinned (OpenSpec.ofChange Rows.onnxEncodesSpec) :=
  OpenClaim.holds_of_wide 3 Tryz.f3 rfl rfl rfl rfl rfl rfl rfl ⟨rfl, rfl, rfl, rfl, rfl⟩ rfl rfl rfl rfl rfl (by kernel_rfl) Tryz.func3 (by kernel_rfl)
    (of_decide_eq_true (by kernel_rfl)) (by unfold Func.isWrapper; first | (rw [if_pos (by decide +kernel)]; kernel_rfl) | (rw [if_neg (by decide +kernel)]; exact ⟨rfl, rfl⟩))
    (fun os started H enc _ => lifted os started H enc)

theorem proved : Rows.OnnxEncodesSaid := over
#print axioms proved
end Go.Proofs.YtlhpmlknmgocoaaGreat.onnxEncodes
