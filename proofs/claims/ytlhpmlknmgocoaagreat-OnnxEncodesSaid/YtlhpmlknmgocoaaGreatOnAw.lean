/- The statements' own awake. -/
import Derived.Test.YtlhpmlknmgocoaaGreatOnDg
import Derived.Test.YtlhpmlknmgocoaaGreatOnEc
import Derived.Test.YtlhpmlknmgocoaaGreatOnZ
import Derived.Test.YtlhpmlknmgocoaaGreatMW
namespace Go.Proofs.YtlhpmlknmgocoaaGreat
set_option linter.unusedSimpArgs false
set_option linter.unusedVariables false
open Go.RowKit

def mAw : Mo := ⟨17, [], [], [], [], [⟨[121], 1, [2]⟩]⟩
def bAw : List UInt8 := [8, 8, 58, 17, 98, 15, 10, 1, 121, 18, 10, 10, 8, 8, 1, 18, 4, 10, 2, 8, 2, 66, 2, 16, 17]
theorem enc_aw : encM mAw = (bAw, 0) := by decide +kernel
theorem dec_aw : decM bAw = (mAw, 0) := enc_back enc_aw
theorem dec_nil : decM [] = (mo0, 6) := by
  have h : (decM []).2 = 6 := by decide +kernel
  have h2 := dec_err (b := []) (by rw [h]; decide)
  exact Prod.ext h2.1 h
theorem dec_580 : decM [58, 0] = (mo0, 7) := by
  have h : (decM [58, 0]).2 = 7 := by decide +kernel
  have h2 := dec_err (b := [58, 0]) (by rw [h]; decide)
  exact Prod.ext h2.1 h
theorem cnt_23 : cnt [2, 3] = (6, 0) := by decide +kernel
theorem cnt_4097 : cnt [4097] = (0, 8) := by decide +kernel

theorem MoV.hl {w : World} {S : Nat → Prop} {x : Mo} {u : Value} (h : MoV w S x u) :
    ∃ A1 c1 A2 c2 A3 c3 A4 c4, u = .agg #[.int .i64 x.opset.toInt, .string ⟨x.name.toArray⟩, .slice A1 x.nodes.length c1, .slice A2 x.inits.length c2, .slice A3 x.inputs.length c3, .slice A4 x.outputs.length c4] ∧
      HL w S (datM x) [.int .i64 x.opset.toInt, .string ⟨x.name.toArray⟩, .slice A1 x.nodes.length c1, .slice A2 x.inits.length c2, .slice A3 x.inputs.length c3, .slice A4 x.outputs.length c4] := by
  obtain ⟨A1, n1, c1, A2, n2, c2, A3, n3, c3, A4, n4, c4, rfl, h1, h2, h3, h4⟩ := h
  have hl : HL w S (datM x) [.int .i64 x.opset.toInt, .string ⟨x.name.toArray⟩, .slice A1 n1 c1, .slice A2 n2 c2, .slice A3 n3 c3, .slice A4 n4 c4] := .cons (.leaf _) (.cons (.leaf _) (.cons h1 (.cons h2 (.cons h3 (.cons h4 .nil)))))
  obtain ⟨B1, d1, B2, d2, B3, d3, B4, d4, e, -⟩ := hl.mod
  simp only [List.cons.injEq, Value.slice.injEq, and_true, true_and] at e
  obtain ⟨⟨-, rfl, -⟩, ⟨-, rfl, -⟩, ⟨-, rfl, -⟩, -, rfl, -⟩ := e
  exact ⟨A1, c1, A2, c2, A3, c3, A4, c4, rfl, hl⟩
/-- a block's cells as a slice -/
theorem held_blk {w : World} {S : Nat → Prop} {g n m : Nat} {T : TypeId} {us : List Value} {ds : List Dat} (hb : Blk w g T us.toArray) (hs : S g) (hl : HL w S ds us) (hm : ds.length = m * n) (hm2 : m ≤ 140737488355328) : Held w S (.row n ds) (.slice (some ⟨g, 0, none⟩) m m) :=
  .row n ds _ m m us hm hl.len (Nat.le_refl _) (by unfold maxLen; omega) hm2 (fun _ => ⟨_, rfl, hs, fun j u hj => by rw [Addr.add_lit, Nat.zero_add, hb.cell]; simpa using hj⟩) hl.get
theorem hl_bytes (w : World) (S : Nat → Prop) : ∀ l : List UInt8, HL w S (l.map fun c => .leaf (.int .u8 (c.toNat : Int))) (byt l)
  | [] => .nil
  | c :: l => .cons (.leaf _) (hl_bytes w S l)
theorem held_byts {w : World} {g : Nat} {T : TypeId} {l : List UInt8} (hb : Blk w g T (byt l).toArray) (hm : l.length ≤ 140737488355328) : Held w (fun b => b = g) (datB l) (.slice (some ⟨g, 0, none⟩) l.length l.length) :=
  held_blk hb rfl (hl_bytes _ _ _) (by simp) hm

def awC (w : World) : List Value := [.int .i64 17, .string ⟨#[]⟩, .slice none 0 0, .slice none 0 0, .slice none 0 0, .slice (some ⟨w.heap.size + 1, 0, none⟩) 1 1]
def awW (w : World) : World := ((((w.alloc (.cells #[.int .i64 2] 3)).alloc (.cells #[.string ⟨#[121]⟩, .int .i64 1, .slice (some ⟨w.heap.size, 0, none⟩) 1 1] 37)).alloc (.cells #[.int .i64 17, .string ⟨#[]⟩, .slice none 0 0, .slice none 0 0, .slice none 0 0, .slice (some ⟨w.heap.size + 1, 0, none⟩) 1 1] 26)).alloc
  (.cells #[.int .u8 8, .int .u8 8, .int .u8 58, .int .u8 17, .int .u8 98, .int .u8 15, .int .u8 10, .int .u8 1, .int .u8 121, .int .u8 18, .int .u8 10, .int .u8 10, .int .u8 8, .int .u8 8, .int .u8 1, .int .u8 18, .int .u8 4, .int .u8 10, .int .u8 2, .int .u8 8, .int .u8 2, .int .u8 66, .int .u8 2, .int .u8 16, .int .u8 17] 5))
theorem aw_facts (w : World) : HL (awW w) (Inb w.heap.size (awW w).heap.size) (datM mAw) (awC w) ∧ Held (awW w) (fun b => b = w.heap.size + 1 + 1 + 1) (datB bAw) (.slice (some ⟨w.heap.size + 1 + 1 + 1, 0, none⟩) 25 25) ∧
    Blk (awW w) (w.heap.size + 1 + 1) 26 (awC w).toArray ∧ Below w.heap.size w (awW w) := by
  have hz : (awW w).heap.size = w.heap.size + 4 := by simp [awW]
  have h0 : Blk (awW w) w.heap.size 3 #[.int .i64 2] := (((Blk.new _ _ _).alloc _).alloc _).alloc _
  have h1 : Blk (awW w) (w.heap.size + 1) 37 #[.string ⟨#[121]⟩, .int .i64 1, .slice (some ⟨w.heap.size, 0, none⟩) 1 1] := ((Blk.new' _ _ _ (by simp)).alloc _).alloc _
  have h2 : Blk (awW w) (w.heap.size + 1 + 1) 26 (awC w).toArray := (Blk.new' _ _ _ (by simp)).alloc _
  have h3 : Blk (awW w) (w.heap.size + 1 + 1 + 1) 5 (byt bAw).toArray := Blk.new' _ _ _ (by simp)
  refine ⟨?_, held_byts h3 (by decide), h2, (((((Below.refl _ _).alloc (Nat.le_refl _) _).alloc (by simp) _).alloc (by simp; omega) _).alloc (by simp; omega) _)⟩
  have d1 : Held (awW w) (Inb w.heap.size (awW w).heap.size) (datI [2]) (.slice (some ⟨w.heap.size, 0, none⟩) 1 1) := held_blk (us := [.int .i64 2]) (m := 1) h0 ⟨Nat.le_refl _, by omega⟩ (.cons (.leaf _) .nil) rfl (by omega)
  have d2 : Held (awW w) (Inb w.heap.size (awW w).heap.size) (.row 3 ([(⟨[121], 1, [2]⟩ : Va)].flatMap datV)) (.slice (some ⟨w.heap.size + 1, 0, none⟩) 1 1) :=
    held_blk (us := [.string ⟨#[121]⟩, .int .i64 1, .slice (some ⟨w.heap.size, 0, none⟩) 1 1]) (m := 1) h1 ⟨by omega, by omega⟩ (.cons (.leaf _) (.cons (.leaf _) (.cons d1 .nil))) rfl (by omega)
  have n0 : ∀ n, Held (awW w) (Inb w.heap.size (awW w).heap.size) (.row n []) (.slice none 0 0) := fun n => Held.nil _ _ _ _ _ (by unfold maxLen; omega)
  exact .cons (.leaf _) (.cons (.leaf _) (.cons (n0 5) (.cons (n0 6) (.cons (n0 3) (.cons d2 .nil)))))
theorem held_ints1 {w : World} {g : Nat} {T : TypeId} {x : Int64} (hb : Blk w g T #[.int .i64 x.toInt]) : Held w (fun b => b = g) (datI [x]) (.slice (some ⟨g, 0, none⟩) 1 1) := held_blk (us := [.int .i64 x.toInt]) (m := 1) hb rfl (.cons (.leaf _) .nil) rfl (by omega)
theorem held_ints2 {w : World} {g : Nat} {T : TypeId} {x y : Int64} (hb : Blk w g T #[.int .i64 x.toInt, .int .i64 y.toInt]) : Held w (fun b => b = g) (datI [x, y]) (.slice (some ⟨g, 0, none⟩) 2 2) := held_blk (us := [.int .i64 x.toInt, .int .i64 y.toInt]) (m := 2) hb rfl (.cons (.leaf _) (.cons (.leaf _) .nil)) rfl (by omega)

set_option maxRecDepth 100000 in
set_option maxHeartbeats 6400000 in
theorem oawake_any (w : World) : Calls Tryz.prog 4 #[] w (SaysB w true) := by
  obtain ⟨hm, hwant, hblk, hbel⟩ := aw_facts w
  have HM := Lib.hid hm
  have HWA := Lib.hid hwant
  have HBK := Lib.hid hblk
  have HBL := Lib.hid hbel
  have HE := Lib.hid (encode_any hm)
  rw [enc_aw] at HE
  clear hm hwant hblk hbel
  go_enter Tryz.func4, Tryz.ntmps4
  go_wp2_with fail
  change Calls Tryz.prog _ _ (awW w) _
  refine Calls.mono HE.out ?_
  rintro e W2 ⟨u1, rfl, hd1, hb1⟩
  obtain ⟨A1, c1, rfl, hc1, hc1', -⟩ := Held.form1 hd1
  have hl25 : bAw.length = 25 := rfl
  dsimp only at hd1
  rw [hl25] at hd1 hc1 ⊢
  have HD1 := Lib.hid hd1
  have HB1 := Lib.hid hb1
  have HC2 := Lib.hid (decode_any (HWA.out.past hb1))
  rw [dec_aw] at HC2
  clear hd1 hb1 HE
  go_wp2_with fail
  refine Calls.mono HC2.out ?_
  rintro e W3 ⟨u2, rfl, hm2, hb2⟩
  obtain ⟨M1, m1, M2, m2, M3, m3, M4, m4, rfl, hl2⟩ := hm2.hl
  have HL2 := Lib.hid hl2
  have HB2 := Lib.hid hb2
  clear hm2 hl2 hb2 HC2
  have HC3 := fun W => Lib.hid (decode_any (w := W) (S := fun _ => True) (b := []) (v := .slice none 0 0) (Held.nil _ _ _ _ _ (by unfold maxLen; omega)))
  rw [dec_nil] at HC3
  go_wp2_with fail
  refine Calls.mono (HC3 _).out ?_
  rintro e W4 ⟨u3, rfl, hm3, hb3⟩
  obtain ⟨N1, n1, N2, n2, N3, n3, N4, n4, rfl, -⟩ := hm3.hl
  have hz3 := hb3.size
  have hbm : Blk W4 W3.heap.size 26 #[.int .i64 mAw.opset.toInt, .string ⟨mAw.name.toArray⟩, .slice M1 mAw.nodes.length m1, .slice M2 mAw.inits.length m2, .slice M3 mAw.inputs.length m3, .slice M4 mAw.outputs.length m4] := Blk.below (Blk.new _ _ _) hb3 (by simp)
  have hb34 : Below W3.heap.size W3 W4 := ((Below.refl _ _).alloc (Nat.le_refl _) _).trans (hb3.mono (by simp))
  have HBM := Lib.hid hbm
  have HB34 := Lib.hid hb34
  clear hm3 hb3 hbm hb34 HC3 hz3
  have HC4 := fun cz => Lib.hid (decode_any (w := (W4.alloc (.cells cz 26)).alloc (.cells #[.int .u8 58, .int .u8 0] 5)) (held_byts (l := [58, 0]) (g := W4.heap.size + 1) (T := 5) (Blk.new' _ _ _ (by simp)) (by simp)))
  rw [dec_580] at HC4
  go_wp2_with fail
  refine Calls.mono (HC4 _).out ?_
  rintro e W5 ⟨u4, rfl, hm4, hb4⟩
  obtain ⟨Q1, q1, Q2, q2, Q3, q3, Q4, q4, rfl, -⟩ := hm4.hl
  have hb45 : Below W4.heap.size W4 W5 := (((Below.refl _ _).alloc (Nat.le_refl _) _).alloc (by simp) _).trans (hb4.mono (by simp; omega))
  have HB45 := Lib.hid hb45
  clear hm4 hb4 hb45 HC4
  have HC5 := fun cz => Lib.hid (count_any (w := (W5.alloc (.cells cz 26)).alloc (.cells #[.int .i64 2, .int .i64 3] 3)) (held_ints2 (x := 2) (y := 3) (g := W5.heap.size + 1) (T := 3) (Blk.new' _ _ _ (by simp))))
  rw [cnt_23] at HC5
  go_wp2_with fail
  refine Calls.mono (HC5 _).out ?_
  rintro e w' ⟨rfl, hw'⟩
  subst w'
  have HC6 := fun cz => Lib.hid (count_any (w := ((W5.alloc (.cells cz 26)).alloc (.cells #[.int .i64 2, .int .i64 3] 3)).alloc (.cells #[.int .i64 4097] 3)) (held_ints1 (x := 4097) (g := W5.heap.size + 1 + 1) (T := 3) (Blk.new' _ _ _ (by simp))))
  rw [cnt_4097] at HC6
  clear HC5
  go_wp2_with fail
  refine Calls.mono (HC6 _).out ?_
  rintro e w' ⟨rfl, hw'⟩
  subst w'
  clear HC6
  have HB56 := fun cz => Lib.hid (show Below W5.heap.size W5 (((W5.alloc (.cells cz 26)).alloc (.cells #[.int .i64 2, .int .i64 3] 3)).alloc (.cells #[.int .i64 4097] 3)) from (((Below.refl _ _).alloc (Nat.le_refl _) _).alloc (by simp) _).alloc (by simp; omega) _)
  obtain ⟨W6, h6⟩ : ∃ W, ((W5.alloc (.cells #[.int .i64 mo0.opset.toInt, .string ⟨mo0.name.toArray⟩, .slice Q1 mo0.nodes.length q1, .slice Q2 mo0.inits.length q2, .slice Q3 mo0.inputs.length q3, .slice Q4 mo0.outputs.length q4] 26)).alloc (.cells #[.int .i64 2, .int .i64 3] 3)).alloc (.cells #[.int .i64 4097] 3) = W := ⟨_, rfl⟩
  have hb56 := (HB56 #[.int .i64 mo0.opset.toInt, .string ⟨mo0.name.toArray⟩, .slice Q1 mo0.nodes.length q1, .slice Q2 mo0.inits.length q2, .slice Q3 mo0.inputs.length q3, .slice Q4 mo0.outputs.length q4]).out
  rw [h6] at hb56
  have hb26 : Below W2.heap.size W2 W6 := ((HB2.out.trans (HB34.out.mono HB2.out.size)).trans (HB45.out.mono (Nat.le_trans HB2.out.size HB34.out.size))).trans (hb56.mono (Nat.le_trans HB2.out.size (Nat.le_trans HB34.out.size HB45.out.size)))
  have hb36 : Below W3.heap.size W3 W6 := (HB34.out.trans (HB45.out.mono HB34.out.size)).trans (hb56.mono (Nat.le_trans HB34.out.size HB45.out.size))
  have hb16 : Below (awW w).heap.size (awW w) W6 := HB1.out.trans (hb26.mono HB1.out.size)
  have hbm6 := (HBM.out.below HB45.out HBM.out.lt).below hb56 (Nat.lt_of_lt_of_le HBM.out.lt HB45.out.size)
  have hbk6 := HBK.out.below hb16 HBK.out.lt
  obtain ⟨X1, x1, ex, -, -, r1⟩ := (HD1.out.past hb26).dv
  obtain ⟨X2, x2, ey, -, -, r2⟩ := (HWA.out.past hb16).dv
  injection ex with ex1 ex2 ex3
  injection ey with ey1 ey2 ey3
  rw [← ex1] at r1
  rw [← ey1] at r2
  have HSB := Lib.hid (sameb_eq (cap := c1) (cap' := 25) r1 r2 (by decide))
  have hb6 : Below w.heap.size w W6 := HBL.out.trans (hb16.mono HBL.out.size)
  have HB6 := Lib.hid hb6
  have HSM := fun n => Lib.hid (same_model (HL2.out.keep (fun h => (h.past hb36).drewN n)) (HM.out.keep (fun h => (h.past hb16).drewN n)))
  have H6 := Lib.hid h6
  have HBM6 := Lib.hid hbm6
  have HBK6 := Lib.hid hbk6
  clear h6 hb56 hb26 hb36 hb16 hbm6 hbk6 r1 r2 ex1 ex2 ex3 ey1 ey2 ey3 hb6 HB56 HM HWA HBK HBL HB1 HB2 HD1 HL2 HBM HB34 HB45
  go_wp2_with fail
  rw [H6.out]
  refine Calls.mono (show Calls Tryz.prog _ #[.slice A1 25 c1, .slice _ 25 25] W6 _ from HSB.out) ?_
  rintro e w' ⟨rfl, n9, rfl⟩
  obtain ⟨p0, p1, p2, p3, p4, p5, -, -, -, -, -, -, lp⟩ := blkc6 (HBM6.out.drewN n9)
  obtain ⟨s0, s1, s2, s3, s4, s5, -, -, -, -, -, -, ls⟩ := blkc6 (HBK6.out.drewN n9)
  go_wp2_with fail
  refine Calls.mono (HSM n9).out ?_
  rintro e w' ⟨rfl, hbf⟩
  have HF := Lib.hid hbf
  clear hbf
  go_wp2
  go_ret
  exact ⟨rfl, HB6.out.trans (((below_drewN' (Below.refl _ _) n9).trans HF.out).mono HB6.out.size)⟩
end Go.Proofs.YtlhpmlknmgocoaaGreat
