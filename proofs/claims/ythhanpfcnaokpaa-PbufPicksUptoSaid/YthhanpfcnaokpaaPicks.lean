/- The statement PbufPicks, where what comes in is of bulk at most 1048576: All, Last and Joined answer as the document's own, and what they answer is new memory. -/
import Derived.Test.YthhanpfcnaokpaaPicksK
import Derived.Deep.CondSized
namespace Go.Proofs.Ythhanpfcnaokpaa.pbufPicks
open Go.ChangeShapes Go.WideShapes Go.ChangeAt Go.RowKit
set_option linter.unusedVariables false

def PAk (n lo hi g : Nat) (W0 : World) (fs : List Fld) (ds : List Value) (i : Value) (wr : World) : Prop := ∃ k : Nat, k ≤ n ∧ i = .int .i64 (k : Int) ∧ Only lo hi W0 wr ∧ (k < n → LM lo hi g W0 fs ds k wr)
def PIk (lo hi g : Nat) (W0 : World) (fs : List Fld) (ds : List Value) (k n : Nat) (j : Value) (wr : World) : Prop := ∃ m : Nat, m ≤ n ∧ j = .int .i64 (m : Int) ∧ LM lo hi g W0 fs ds k wr
def PCk (lo hi : Nat) (W0 : World) (v : Value) (n : Nat) (i : Value) (wr : World) : Prop := ∃ m : Nat, m ≤ n ∧ i = .int .i64 (m : Int) ∧ CM lo hi W0 v n wr

set_option maxRecDepth 100000 in
set_option maxHeartbeats 4000000 in
theorem walk (w : World) (A0 : Option Addr) (cap0 : Nat) (l0 : List Fld) (hc0 : l0.length ≤ cap0) (hr0 : cap0 ≤ 2932031007400) (hb0 : RF w w.heap.size A0 l0) (hf0 : Wf64 l0) (hbk0 : bulkF l0 + 1 ≤ 1048576) (a1 : Int) (w1 : (Lit.int .i64 a1).wf = true) (a2 : Int) (w2 : (Lit.int .i64 a2).wf = true) :
    Calls Try.prog 10 #[.slice A0 l0.length cap0, .int .i64 a1, .int .i64 a2] w fun e w' => e = .returned (.bool true) ∧ Below w.heap.size w w' := by
  clear w1 w2 hf0
  have hl0 : l0.length ≤ bulkF l0 := bulkF_len l0
  obtain ⟨gs, hgs⟩ : ∃ gs, sel a1 l0 = gs := ⟨_, rfl⟩
  obtain ⟨rf, rb, re, hre⟩ : ∃ f b e, lastF a2 gs = (f, b, e) := ⟨_, _, _, rfl⟩
  obtain ⟨jl, hjl⟩ : ∃ l, (jn gs).getD [] = l := ⟨_, rfl⟩
  obtain ⟨jb, hjb⟩ : ∃ b, jnb gs = b := ⟨_, rfl⟩
  obtain ⟨je, hje⟩ : ∃ e, jne gs = e := ⟨_, rfl⟩
  have hgl : gs.length ≤ 1048576 := by rw [← hgs]; have := sel_len a1 l0; omega
  have hgb : bulkF gs ≤ 1048576 := by rw [← hgs]; have := bulk_sel a1 l0; omega
  have hjll : jl.length ≤ 1048576 := by rw [← hjl]; have := jn_len' gs; omega
  have hrfl : rf.data.length ≤ 1048576 := by have := lastF_len hre; omega
  have HGS := Lib.hid hgs
  have HRE := Lib.hid hre
  have HJL := Lib.hid hjl
  have HJB := Lib.hid hjb
  have HJE := Lib.hid hje
  clear hgs hre hjl hjb hje
  obtain ⟨rnum, rwire, rx, rdata⟩ := rf
  dsimp only at hrfl
  have hfl0 : l0.length + 1 ≤ 2900000000000 := by omega
  have hbk : bulkF l0 + 1 ≤ 17592186044416 := by omega
  go_enter Try.func10, Try.ntmps10
  go_wp2_with fail
  refine (awake_any _).mono ?_
  rintro e W1 ⟨rfl, hB1⟩
  go_wp2_with fail
  refine (plain_any A0 cap0 l0 W1 hc0 hr0 ((hb0.below hB1).more hB1.size)).mono ?_
  rintro e W2 ⟨A2, c2, rfl, hl2, hm2, hr2, hB2⟩
  have hB2' := hB1.trans (hB2.mono hB1.size)
  go_wp2_with fail
  refine (all_at HGS.out hfl0 hbk ((hb0.below hB2').more hB2'.size)).mono ?_
  rintro e W3 ⟨A3, n3, c3, rfl, hn3, ho3, hB3⟩
  have hB3' := hB2'.trans (hB3.mono hB2'.size)
  go_wp2_with fail
  refine (last_at HGS.out HRE.out hfl0 hbk ((hb0.below hB3').more hB3'.size)).mono ?_
  rintro e W4 ⟨A4, n4, c4, rfl, hn4, ho4, hB4⟩
  have hB4' := hB3'.trans (hB4.mono hB3'.size)
  dsimp only at hn4 ho4
  go_wp2_with fail
  have hB4a := hB4'.alloc hB4'.size (.cells #[.int .i64 rnum, .int .i64 rwire, .int .u64 (rx : Int), .slice A4 n4 c4] 40)
  have hB24 : Below W2.heap.size W2 (W4.alloc (.cells #[.int .i64 rnum, .int .i64 rwire, .int .u64 (rx : Int), .slice A4 n4 c4] 40)) := (hB3.trans (hB4.mono hB3.size)).alloc (by have := hB3.size; have := hB4.size; omega) _
  have hk10 := Blk.new W4 40 #[.int .i64 rnum, .int .i64 rwire, .int .u64 (rx : Int), .slice A4 n4 c4]
  refine (rlast_at HGS.out HRE.out hfl0 ((hr2.below hB24).more hB24.size)).mono ?_
  rintro e W5 ⟨A5, n5, c5, rfl, hn5, hr5, hB5⟩
  dsimp only at hn5 hr5
  have hB5' := hB4a.trans (hB5.mono hB4a.size)
  have hk10 := hk10.below hB5 (by simp)
  have hz5 : W4.heap.size + 1 ≤ W5.heap.size := by have := hB5.size; simpa using this
  have hB45 : Below W4.heap.size W4 W5 := ((Below.refl W4.heap.size W4).alloc (Nat.le_refl _) _).trans (hB5.mono (by simp))
  go_wp2_with fail
  have hB5a := hB5'.alloc hB5'.size (.cells #[.int .i64 rnum, .int .i64 rwire, .int .u64 (rx : Int), .slice A5 n5 c5] 55)
  have hk13 := Blk.new W5 55 #[.int .i64 rnum, .int .i64 rwire, .int .u64 (rx : Int), .slice A5 n5 c5]
  have hk10 := hk10.alloc (.cells #[.int .i64 rnum, .int .i64 rwire, .int .u64 (rx : Int), .slice A5 n5 c5] 55)
  have hB25 : Below W2.heap.size W2 (W5.alloc (.cells #[.int .i64 rnum, .int .i64 rwire, .int .u64 (rx : Int), .slice A5 n5 c5] 55)) := (hB24.trans (hB5.mono hB24.size)).alloc (by have := hB24.size; simp at this; omega) _
  have hz2 : W2.heap.size ≤ W3.heap.size := hB3.size
  have hz3 : W3.heap.size ≤ W4.heap.size := hB4.size
  refine (joined_at HGS.out HJL.out HJB.out HJE.out hfl0 hbk ((hb0.below hB5a).more hB5a.size)).mono ?_
  rintro e W6 ⟨A6, n6, c6, rfl, hn6, ho6, hB6⟩
  have hB6' := hB5a.trans (hB6.mono hB5a.size)
  have hk10 := hk10.below hB6 (by simp; omega)
  have hk13 := hk13.below hB6 (by simp)
  have hB26 := hB25.trans (hB6.mono hB25.size)
  have hz6 : W5.heap.size + 1 ≤ W6.heap.size := by have := hB6.size; simpa using this
  have hB46 : Below W4.heap.size W4 W6 := (hB45.alloc hB45.size (.cells #[.int .i64 rnum, .int .i64 rwire, .int .u64 (rx : Int), .slice A5 n5 c5] 55)).trans (hB6.mono (by simp; omega))
  have hB56 : Below W5.heap.size W5 W6 := ((Below.refl W5.heap.size W5).alloc (Nat.le_refl _) (.cells #[.int .i64 rnum, .int .i64 rwire, .int .u64 (rx : Int), .slice A5 n5 c5] 55)).trans (hB6.mono (by simp))
  have ho6 : OB W6 (W5.heap.size + 1) (.slice A6 n6 c6) jl := by simpa using ho6
  go_wp2_with fail
  refine (rjoined_at HGS.out HJL.out HJB.out HJE.out hfl0 hbk ((hr2.below hB26).more hB26.size)).mono ?_
  rintro e W7 ⟨A7, n7, c7, rfl, hn7, ho7, hB7⟩
  have hB7' := hB6'.trans (hB7.mono hB6'.size)
  have hk10 := hk10.below hB7 (by omega)
  have hk13 := hk13.below hB7 (by omega)
  have hB27 := hB26.trans (hB7.mono hB26.size)
  have hB47 := hB46.trans (hB7.mono hB46.size)
  have hB57 := hB56.trans (hB7.mono hB56.size)
  have hB37 := hB4.trans (hB47.mono hz3)
  obtain ⟨x0, x1, x2, x3⟩ := blk4 hk10
  obtain ⟨y0, y1, y2, y3⟩ := blk4 hk13
  have hs4 := (ho4.below hB47 (Nat.le_refl _)).rb
  have hs5 := hr5.below hB57
  go_wp2_with fail
  refine (sameb_nn hs4 hs5 hn4.out hn5.out (by unfold maxLen; omega)).mono ?_
  rintro e W8 ⟨rfl, m8, rfl⟩
  have hk4 : ∀ k, (Value.slice A4 n4 c4).ownBlock = some k → W3.heap.size ≤ k ∧ k < W4.heap.size := ho4.lt
  have hk6 : ∀ k, (Value.slice A6 n6 c6).ownBlock = some k → W5.heap.size + 1 ≤ k ∧ k < W6.heap.size := ho6.lt
  have ho4 : OB (W7.drewN m8) W3.heap.size (.slice A4 n4 c4) rdata := (ho4.below hB47 (Nat.le_refl _)).below (below_drewN (Below.refl W7.heap.size W7) m8) (Nat.le_refl _)
  have ho6 : OB (W7.drewN m8) (W5.heap.size + 1) (.slice A6 n6 c6) jl := (ho6.below hB7 (Nat.le_refl _)).below (below_drewN (Below.refl W7.heap.size W7) m8) (Nat.le_refl _)
  have ho7 : OB (W7.drewN m8) W6.heap.size (.slice A7 n7 c7) jl := ho7.below (below_drewN (Below.refl W7.heap.size W7) m8) (Nat.le_refl _)
  have hB8 := below_drewN hB7' m8
  have hB28 := below_drewN hB27 m8
  have hB38 := below_drewN hB37 m8
  have hz7 : W6.heap.size ≤ (W7.drewN m8).heap.size := hB7.size
  have hk10 : Blk (W7.drewN m8) W4.heap.size 40 #[.int .i64 rnum, .int .i64 rwire, .int .u64 (rx : Int), .slice A4 n4 c4] := hk10.drewN m8
  clear x0 x1 x2 x3 y0 y1 y2 y3 hs4 hs5 hk13 hB1 hB2 hB3' hB4 hB4' hB4a hB24 hB5 hB5' hB45 hB5a hB25 hB6 hB6' hB26 hB46 hB56 hB7 hB7' hB27 hB47 hB57 hB37 hr5 hm2 hl2
  generalize W7.drewN m8 = W8 at *
  obtain ⟨g, ds, hst⟩ := LM.maybe ho3 rfl hB38
  have hn3l : n3 ≤ 1048576 := by have := hn3.out; omega
  have hn4l : n4 ≤ 1048576 := by have := hn4.out; omega
  have hn6l : n6 ≤ 1048576 := by have := hn6.out; omega
  clear ho3 hB3 hB38
  go_wp2
  go_loopw [23] (fun i wr => PAk n3 W2.heap.size W3.heap.size g W8 gs ds i wr) (fun i _ => n3 - (intOf i).toNat)
  case atStart => exact ⟨0, Nat.zero_le _, rfl, Only.refl _ _ _, fun h => (hst (by have := hn3.out; omega)).2.2⟩
  case round =>
    obtain ⟨k, hk, rfl, hon, hlm⟩ := hrel
    by_cases hlt : k < n3
    · have hlg : k < gs.length := by have := hn3.out; omega
      obtain ⟨rfl, st, -⟩ := hst (by omega)
      have hlm := hlm hlt
      have hkd : k < ds.length := by rw [st.len]; exact hlg
      have hki : (k : Int) < (n3 : Int) := by omega
      obtain ⟨A, n, c, ld, hds, hnn, hll, hod⟩ := hlm.slice hlg hkd
      have HD := Lib.hid hds
      have hnl : n ≤ 1048576 := by rw [hnn]; have := data_bulk hlg; omega
      have q0 := (hlm.cells hlg hkd).1
      rw [hds] at q0
      clear hds hnn hll hod
      go_wp2
      go_loopw [24] (fun j wr => PIk W2.heap.size W3.heap.size g W8 gs ds k n j wr) (fun j _ => n - (intOf j).toNat)
      case atStart => exact ⟨0, Nat.zero_le _, rfl, hlm⟩
      case round =>
        clear hlm hon q0
        obtain ⟨m, hmn, rfl, hlm⟩ := hrel
        obtain ⟨A', n', c', ld, hds, hnn, hll, hod⟩ := hlm.slice hlg hkd
        have q1 := (hlm.cells hlg hkd).1
        rw [HD.out] at hds q1
        injection hds with e1 e2 e3
        subst e1 e2 e3
        have HLD := Lib.hid hll
        clear hnn hll
        by_cases hj : m < n
        · have hjl : m < ld.length := by have := HLD.out; omega
          obtain ⟨gd, rfl, q2, f2⟩ := hod.at_ hjl
          have hx : bits .xor .u8 (ld[m].toNat : Int) 1 = ((ld[m] ^^^ 1).toNat : Int) := u8_flip ld[m] 1
          have HX := Lib.hid hx
          have HS := Lib.hid (hlm.setData st hkd HD.out hlg m (ld[m] ^^^ 1)).drew
          clear hx
          generalize ld[m] = x at *
          go_wp2
          go_region
          all_goals go_wp2
          go_roundw
          case rel => exact ⟨m + 1, by omega, by go_num, by rw [HX.out]; exact HS.out⟩
          case measure => simp [intOf]; omega
        · go_wp2
          go_roundw
          case rel => exact ⟨k + 1, by omega, by go_num, hlm.only, fun _ => hlm.skip⟩
          case measure => simp [intOf]; omega
    · clear hlm hst
      have hki : ¬ (k : Int) < (n3 : Int) := by omega
      obtain ⟨W9, hW9⟩ : ∃ W, W = wr := ⟨_, rfl⟩
      subst hW9
      have hB89 : Below W2.heap.size W8 W9 := hon.below (Nat.le_refl _) (by omega)
      have hz9 := hon.size
      have hk10 := hk10.only hon (.inr (by omega))
      have ho4 := ho4.only hon (Nat.le_refl _)
      have ho6 := ho6.only hon (by omega)
      have ho7 := ho7.only hon (by omega)
      have hB29 := hB28.trans hB89
      have hBw9 := hB8.trans (hB89.mono (by have := hB28.size; have := hB2'.size; omega))
      clear hon hB89 hB8 hB28
      go_wp2
      go_loopw [25] (fun i wr' => PCk (W5.heap.size + 1) W6.heap.size W9 (.slice A6 n6 c6) n6 i wr') (fun i _ => n6 - (intOf i).toNat)
      case atStart => exact ⟨0, Nat.zero_le _, rfl, Only.refl _ _ _, jl, hn6.out.symm, ho6⟩
      case round =>
        obtain ⟨m, hm, rfl, hcm⟩ := hrel
        by_cases hlt : m < n6
        · clear hk10 ho4 ho6 ho7 hB29 hBw9 hki
          obtain ⟨hon2, ld, hll, hod⟩ := id hcm
          have hjl : m < ld.length := by omega
          obtain ⟨gd, rfl, q2, f2⟩ := hod.at_ hjl
          have hgd := hk6 gd rfl
          have hx : bits .xor .u8 (ld[m].toNat : Int) 4 = ((ld[m] ^^^ 4).toNat : Int) := u8_flip ld[m] 4
          have HX := Lib.hid hx
          have HS := Lib.hid (hcm.set hgd m (ld[m] ^^^ 4))
          have hki : (m : Int) < (n6 : Int) := by omega
          clear hx hcm hod hll hon2
          generalize ld[m] = x at *
          go_wp2
          go_roundw
          case rel => exact ⟨m + 1, by omega, by go_num, by rw [HX.out]; exact HS.out⟩
          case measure => simp [intOf]; omega
        · obtain ⟨W10, hW10⟩ : ∃ W, W = wr := ⟨_, rfl⟩
          subst hW10
          have hki2 : ¬ (m : Int) < (n6 : Int) := by omega
          have hon2 := hcm.1
          have hB910 : Below W2.heap.size W9 W10 := hon2.below (by omega) (by omega)
          have hz10 := hon2.size
          have hk10 := hk10.only hon2 (.inl (by omega))
          have ho4 := ho4.off hon2 (fun k hk => .inl (by have := hk4 k hk; omega))
          have ho7 := ho7.only hon2 (by omega)
          have hB210 := hB29.trans hB910
          have hBw10 := hBw9.trans (hB910.mono (by have := hB29.size; have := hB2'.size; omega))
          clear hon2 hcm ho6 hB910 hB29 hBw9 hk6
          go_wp2
          go_loopw [26] (fun i wr' => PCk W3.heap.size W4.heap.size W10 (.slice A4 n4 c4) n4 i wr') (fun i _ => n4 - (intOf i).toNat)
          case atStart => exact ⟨0, Nat.zero_le _, rfl, Only.refl _ _ _, rdata, hn4.out.symm, ho4⟩
          case round =>
            obtain ⟨m, hm, rfl, hcm⟩ := hrel
            have hk10' := hk10.only hcm.1 (.inr (Nat.le_refl _))
            obtain ⟨x0, x1, x2, x3⟩ := blk4 hk10'
            by_cases hlt : m < n4
            · clear hk10 ho4 ho7 hB210 hBw10 hki hki2
              obtain ⟨hon2, ld, hll, hod⟩ := id hcm
              have hjl : m < ld.length := by omega
              obtain ⟨gd, rfl, q2, f2⟩ := hod.at_ hjl
              have hgd := hk4 gd rfl
              have hx : bits .xor .u8 (ld[m].toNat : Int) 2 = ((ld[m] ^^^ 2).toNat : Int) := u8_flip ld[m] 2
              have HX := Lib.hid hx
              have HS := Lib.hid (hcm.set hgd m (ld[m] ^^^ 2)).drew
              have hki : (m : Int) < (n4 : Int) := by omega
              clear hx hcm hod hll hon2 hk10'
              generalize ld[m] = x at *
              go_wp2
              go_region
              all_goals go_wp2
              go_roundw
              case rel => exact ⟨m + 1, by omega, by go_num, by rw [HX.out]; exact HS.out⟩
              case measure => simp [intOf]; omega
            · have hki3 : ¬ (m : Int) < (n4 : Int) := by omega
              obtain ⟨W11, hW11⟩ : ∃ W, W = wr := ⟨_, rfl⟩
              subst hW11
              have hon3 := hcm.1
              have hB1011 : Below W2.heap.size W10 W11 := hon3.below (by omega) (by omega)
              have ho7 := ho7.only hon3 (by omega)
              have hB211 := hB210.trans hB1011
              have hBw11 := hBw10.trans (hB1011.mono (by have := hB2'.size; omega))
              clear hon3 hcm ho4 hB1011 hB210 hBw10 hk4 hk10 hk10'
              go_wp2_with fail
              refine (all_at HGS.out hfl0 hbk ((hb0.below hBw11).more hBw11.size)).mono ?_
              rintro e W12 ⟨A12, n12, c12, rfl, hn12, ho12, hB12⟩
              have hBw12 := hBw11.trans (hB12.mono hBw11.size)
              go_wp2_with fail
              refine (joined_at HGS.out HJL.out HJB.out HJE.out hfl0 hbk ((hb0.below hBw12).more hBw12.size)).mono ?_
              rintro e W13 ⟨A13, n13, c13, rfl, hn13, ho13, hB13⟩
              have hBw13 := hBw12.trans (hB13.mono hBw12.size)
              have hB213 := (hB211.trans (hB12.mono hB211.size)).trans (hB13.mono (by have := hB211.size; have := hB12.size; omega))
              go_wp2_with fail
              refine (rall_at HGS.out hfl0 ((hr2.below hB213).more hB213.size)).mono ?_
              rintro e W14 ⟨A14, n14, c14, rfl, hn14, hr14, hB14⟩
              have hBw14 := hBw13.trans (hB14.mono hBw13.size)
              have hs12 := (ho12.below (hB13.trans (hB14.mono hB13.size)) (Nat.le_refl _)).rf
              go_wp2_with fail
              refine (same_nn hs12 hr14 hn12.out hn14.out (by unfold maxLen; omega)).mono ?_
              rintro e W15 ⟨rfl, m15, rfl⟩
              have hs13 := ((ho13.below hB14 (Nat.le_refl _)).below (below_drewN (Below.refl W14.heap.size W14) m15) (Nat.le_refl _)).rb
              have hB1114 := (hB12.trans (hB13.mono hB12.size)).trans (hB14.mono (by have := hB12.size; have := hB13.size; omega))
              have hs7 := ((ho7.below hB1114 (Nat.le_refl _)).below (below_drewN (Below.refl W14.heap.size W14) m15) (Nat.le_refl _)).rb
              have h67 : ((n6 : Int) == (n7 : Int)) = true := by have := hn6.out; have := hn7.out; simp; omega
              go_wp2_with fail
              refine (sameb_nn hs13 hs7 hn13.out hn7.out (by unfold maxLen; omega)).mono ?_
              rintro e W16 ⟨rfl, m16, rfl⟩
              go_wp2
              go_ret
              exact ⟨rfl, below_drewN hBw14 _⟩

/-! ### THE ROW's STEP -/
set_option maxRecDepth 100000 in
theorem lifted (os : Os) (started : os.Started) (H : Type) (enc : TypeId × Value → H) 
    (F : Stop.Interp) : ReturnsInHanded {} Try.checked os 10 .any ((Rows.OpenSpec.upto Rows.pbufPicksSpec).pre6 enc Try.prog Try.f10 Rows.pbufPicksUptoRow.domain false) (((Rows.OpenSpec.upto Rows.pbufPicksSpec).at F).post enc Try.prog Try.f10 false true false false) := by
  refine returnsInHanded_of_cond_sized (C := Try.checked) (s := Rows.OpenSpec.upto Rows.pbufPicksSpec) (k := Rows.uptoSmall) rfl own started (by kernel_rfl) Try.func10
    (OpenSpec.witness (enc := enc) (C := Try.checked) (s := Rows.OpenSpec.upto Rows.pbufPicksSpec) (k := Rows.uptoSmall) rfl false ⟨#[], #[.slice none 0 0, .int .i64 0, .int .i64 0], []⟩ 8 (by kernel_rfl) (by kernel_rfl) (by kernel_rfl)
      (x := ([.nil, .lit (.int .i64 0), .lit (.int .i64 0)], [], [])) (by kernel_rfl) rfl (by kernel_rfl)) ?_
  intro W base args ds gs before hval0 hW hcnd hsmall hsz0 _
  have hval : ∀ (j : Nat) t v, Try.f10.params[j]? = some t → args[j]? = some v → Value.okWide Try.prog W .any base t v := hval0
  have hW' := hW
  obtain ⟨p, q, hA0, hV, rfl, hfz, hnd⟩ := hW
  have hA : DataW.TrodAll enc Try.prog W 0 (fun _ => true) true Try.f10.params.toList args.toList ds p := hA0
  have hsz : (DataW.weightsEach Try.prog (Try.f10.params.toList ++ Rows.pbufPicksSpec.plain.varTypes Try.prog) (ds ++ gs)).all (· ≤ reachBytes) = true := hsz0
  rw [Try.params10] at hA hval hsz
  obtain ⟨v0, vs0, d0, ds0, p0, q0, hargs, rfl, rfl, h0, r0⟩ := trodAll_cons hA
  obtain ⟨v1, vs1, d1, ds1, p1, q1, rfl, rfl, rfl, h1, r1⟩ := trodAll_cons r0
  obtain ⟨v2, vs2, d2, ds2, p2, q2, rfl, rfl, rfl, h2, r2⟩ := trodAll_cons r1
  obtain ⟨rfl, rfl, rfl⟩ := trodAll_nil r2
  obtain rfl : args = #[v0, v1, v2] := by cases args; simp_all
  obtain ⟨rfl, rfl⟩ := trodVars_none hV
  clear hA0 hval0 hsz0
  have k0 := h0
  have lt0 : ∀ x ∈ p0, x.block < W.heap.size := by obtain ⟨m, hm⟩ := k0; exact DataW.trod_lt m _ _ _ hm
  have wt0 : ∀ n ∈ d0.weights Try.prog 32, n ≤ reachBytes := fun n hn => by simpa using List.all_eq_true.1 hsz _ (DataW.weights_mem_each (j := 0) (t := 32) rfl rfl n hn)
  obtain ⟨A0, cap0, l0, rfl, hc0, hr0, hb0, hf0, hk0⟩ := open_fields (hval 0 32 v0 rfl rfl) h0 wt0 (fun _ => rfl)
  obtain ⟨a1, rfl, rfl, rfl, w1⟩ := open_int Try.underlying3 (hval 1 3 v1 rfl rfl) h1
  obtain ⟨a2, rfl, rfl, rfl, w2⟩ := open_int Try.underlying3 (hval 2 3 v2 rfl rfl) h2
  have hsm := of_decide_eq_true hsmall
  have hbk0 : bulkF l0 + 1 ≤ 1048576 := by simp only [List.append_nil, Rows.uptoBulkAll] at hsm; omega
  clear hsm
  refine (walk W A0 cap0 l0 hc0 hr0 hb0 hf0 hbk0 a1 w1 a2 w2).mono fun e W' ⟨he, bel⟩ => ?_
  subst he
  exact ⟨_, rfl, _, _, _, [], _, [], hW', trodAll_mk1 (shut_bool Try.underlying4 _), (trodAll_cons_mk (Below.trod laidOut (by kernel_rfl) (of_decide_eq_true (by kernel_rfl)) k0 bel lt0) (trodAll_cons_mk (shut_int Try.underlying3 w1) (trodAll_cons_mk (shut_int Try.underlying3 w2) trodAll_mk0))), rfl, bel.frame _, fun h => by cases h⟩

theorem proved : Rows.PbufPicksUptoSaid :=
  OpenClaim.holds_of_cond 10 Try.f10 rfl rfl rfl rfl rfl rfl rfl ⟨rfl, rfl, rfl, rfl, rfl⟩ rfl rfl rfl rfl rfl (by kernel_rfl) Try.func10 (by kernel_rfl)
    (of_decide_eq_true (by kernel_rfl)) (by unfold Func.isWrapper; first | (rw [if_pos (by decide +kernel)]; kernel_rfl) | (rw [if_neg (by decide +kernel)]; exact ⟨rfl, rfl⟩))
    (fun os started H enc _ F => lifted os started H enc F)
#print axioms proved
end Go.Proofs.Ythhanpfcnaokpaa.pbufPicks
