/- The contract of round.sum. -/
import Derived.Test.YtanccobllehnaaaRdR
import Derived.Test.YtanccobllehnaaaSoftA
import Derived.Deep.CutRange
import Derived.Deep.RegionHeld3
namespace Go.Proofs.Ytanccobllehnaaa
open Go.RowKit

/-- a sum of two that are not 0, the first one with the higher top, as its code has it -/
def sumC (way : Int) (pn : Bool) (pe : Int) (ps : Nat) (cn : Bool) (ce : Int) (cs : Nat) : Nat :=
  let E := pe + (blen ps : Int) - 126
  let a := mvV ps (pe - E)
  let b := mvV cs (ce - E)
  let lost := mvL cs (ce - E)
  if pn = cn then roundWP way pn E (a + b) lost
  else if lost = true then roundWP way pn E (a - b - 1) true
  else if a = b then sgn (way == 2)
  else if a < b then roundWP way cn E (b - a) false
  else roundWP way pn E (a - b) false
def sumF (way : Int) (pn : Bool) (pe : Int) (ps : Nat) (cn : Bool) (ce : Int) (cs : Nat) : Nat :=
  if pe + (blen ps : Int) < ce + (blen cs : Int) then sumC way cn ce cs pn pe ps else sumC way pn pe ps cn ce cs
theorem mv_top {s : Nat} {k : Int} (h0 : 0 < s) (hk : k ≤ 126 - (blen s : Int)) (hs : s < 18446744073709551616) : mvV s k < 85070591730234615865843651857942052864 := by
  have h2 := blen_lt s
  have h3 := blen_64 hs
  have h4 : two 126 = 85070591730234615865843651857942052864 := rfl
  unfold mvV
  split
  · have h1 : s * two k.toNat < two (blen s) * two k.toNat := Nat.mul_lt_mul_of_pos_right h2 (two_pos _)
    rw [← two_add] at h1
    have := two_le (show blen s + k.toNat ≤ 126 by omega)
    omega
  · have := Nat.div_le_self s (two (-k).toNat)
    omega
theorem blk3 {w : World} {g : Nat} {t : TypeId} {c0 c1 c2 : Value} (hk : Blk w g t #[c0, c1, c2]) :
    w.cell? ⟨g, 0, none⟩ = some c0 ∧ w.cell? ⟨g, 1, none⟩ = some c1 ∧ w.cell? ⟨g, 2, none⟩ = some c2 := by
  have k0 := hk.cell 0
  have k1 := hk.cell 1
  have k2 := hk.cell 2
  simp at k0 k1 k2
  exact ⟨k0, k1, k2⟩
theorem Blk.three {w : World} {g : Nat} {t : TypeId} {c0 c1 c2 : Value} (h : Blk w g t #[c0, c1, c2]) (d0 d1 d2 : Value) :
    Blk (((w.setCell ⟨g, 0, none⟩ d0).setCell ⟨g, 1, none⟩ d1).setCell ⟨g, 2, none⟩ d2) g t #[d0, d1, d2] := by
  have := ((h.set_ 0 d0).set_ 1 d1).set_ 2 d2
  simpa using this
theorem two_boxes (w : World) (X Y : Array Value) (n : Nat) : Blk (((w.alloc (.cells X 46)).alloc (.cells Y 46)).drewN n) w.heap.size 46 X ∧ Blk (((w.alloc (.cells X 46)).alloc (.cells Y 46)).drewN n) (w.heap.size + 1) 46 Y := by
  refine ⟨((Blk.new w _ _).alloc _).drewN _, ?_⟩
  have := (Blk.new (w.alloc (.cells X 46)) 46 Y).drewN n
  simpa using this
theorem blk2 {w : World} {g : Nat} {t : TypeId} {c0 c1 : Value} (hk : Blk w g t #[c0, c1]) :
    w.cell? ⟨g, 0, none⟩ = some c0 ∧ w.cell? ⟨g, 1, none⟩ = some c1 := by
  have k0 := hk.cell 0
  have k1 := hk.cell 1
  simp at k0 k1
  exact ⟨k0, k1⟩

theorem cell_lt {W : World} {g i : Nat} {v : Value} (h : W.cell? ⟨g, i, none⟩ = some v) : g < W.heap.size := by
  rcases Nat.lt_or_ge g W.heap.size with hlt | hge
  · exact hlt
  · simp [World.cell?, Array.getElem?_eq_none hge] at h
theorem kc_alloc {W : World} {g i : Nat} {v : Value} {o : Obj} (h : W.cell? ⟨g, i, none⟩ = some v) : (W.alloc o).cell? ⟨g, i, none⟩ = some v := by
  rw [World.cell?_alloc_past _ _ _ (cell_lt h)]; exact h
theorem kc_drew {W : World} {p : Addr} {v : Value} {n : Nat} (h : W.cell? p = some v) : (W.drewN n).cell? p = some v := h
theorem kc3 {W : World} {g i : Nat} {v : Value} {o1 o2 o3 : Obj} (h : W.cell? ⟨g, i, none⟩ = some v) : (((W.alloc o1).alloc o2).alloc o3).drew.cell? ⟨g, i, none⟩ = some v := kc_alloc (kc_alloc (kc_alloc h))
theorem kc4 {W : World} {g i n : Nat} {v : Value} {o1 o2 o3 o4 : Obj} (h : W.cell? ⟨g, i, none⟩ = some v) : (((((W.alloc o1).alloc o2).alloc o3).alloc o4).drewN n).cell? ⟨g, i, none⟩ = some v := kc_alloc (kc_alloc (kc_alloc (kc_alloc h)))
theorem kc6 {W : World} {g i : Nat} {v : Value} {o1 o2 o3 o4 o5 o6 : Obj} (h : W.cell? ⟨g, i, none⟩ = some v) : ((((((W.alloc o1).alloc o2).alloc o3).alloc o4).alloc o5).alloc o6).drew.cell? ⟨g, i, none⟩ = some v := kc3 (kc_alloc (kc_alloc (kc_alloc h)))
theorem kc7 {W : World} {g i n : Nat} {v : Value} {o1 o2 o3 o4 o5 o6 o7 : Obj} (h : W.cell? ⟨g, i, none⟩ = some v) : ((((((((W.alloc o1).alloc o2).alloc o3).alloc o4).alloc o5).alloc o6).alloc o7).drewN n).cell? ⟨g, i, none⟩ = some v := kc4 (kc_alloc (kc_alloc (kc_alloc h)))
theorem minus_one {a v : Nat} {w : World} (hv : Hid (a = 1 + v)) (h : Hid (a < 340282366920938463463374607431768211456)) :
    Calls Try.prog 76 #[.agg #[.int .u64 (hiW a : Int), .int .u64 (loW a : Int)], .agg #[.int .u64 0, .int .u64 1]] w fun e w' =>
      e = .returned (.agg #[.int .u64 (hiW v : Int), .int .u64 (loW v : Int)]) ∧ Three w w' := minus_any' (b := 1) hv h
theorem minus_at {a b ah al bh bl v : Nat} {w : World} (hp : Hid (hiW a = ah ∧ loW a = al)) (hq : Hid (hiW b = bh ∧ loW b = bl)) (hv : Hid (a = b + v)) (h : Hid (a < 340282366920938463463374607431768211456)) :
    Calls Try.prog 76 #[.agg #[.int .u64 (ah : Int), .int .u64 (al : Int)], .agg #[.int .u64 (bh : Int), .int .u64 (bl : Int)]] w fun e w' =>
      e = .returned (.agg #[.int .u64 (hiW v : Int), .int .u64 (loW v : Int)]) ∧ Three w w' := by
  obtain ⟨h1, h2⟩ := hp.out
  obtain ⟨h3, h4⟩ := hq.out
  rw [← h1, ← h2, ← h3, ← h4]
  exact minus_any' hv h
theorem less_at {a b ah al bh bl : Nat} {r : Bool} {w : World} (hp : Hid (hiW a = ah ∧ loW a = al)) (hq : Hid (hiW b = bh ∧ loW b = bl)) (hr : Hid (decide (a < b) = r)) :
    Calls Try.prog 77 #[.agg #[.int .u64 (ah : Int), .int .u64 (al : Int)], .agg #[.int .u64 (bh : Int), .int .u64 (bl : Int)]] w fun e w' => e = .returned (.bool r) ∧ Two w w' := by
  obtain ⟨h1, h2⟩ := hp.out
  obtain ⟨h3, h4⟩ := hq.out
  rw [← h1, ← h2, ← h3, ← h4]
  exact less_wide hr
theorem kc1 {W : World} {g i n : Nat} {v : Value} {o : Obj} (h : W.cell? ⟨g, i, none⟩ = some v) : ((W.alloc o).drewN n).drew.cell? ⟨g, i, none⟩ = some v := kc_alloc (W := W) h
set_option maxRecDepth 100000 in
set_option maxHeartbeats 800000 in
theorem sum_any {way pe ce : Int} {pn cn : Bool} {ps cs r : Nat} {w : World} (hps : Hid (0 < ps ∧ ps < 18446744073709551616)) (hcs : Hid (0 < cs ∧ cs < 18446744073709551616)) (hpe : -10000 ≤ pe ∧ pe ≤ 10000) (hce : -10000 ≤ ce ∧ ce ≤ 10000) (hr : Hid (sumF way pn pe ps cn ce cs = r)) :
    Calls Try.prog 44 #[.int .i64 way, .agg #[.bool pn, .int .i64 pe, .int .u64 (ps : Int)], .agg #[.bool cn, .int .i64 ce, .int .u64 (cs : Int)]] w (BR w r) := by
  have hlp := blen_64 hps.out.2
  have hlc := blen_64 hcs.out.2
  obtain ⟨lp, elp⟩ : ∃ l, blen ps = l := ⟨_, rfl⟩
  obtain ⟨lc, elc⟩ : ∃ l, blen cs = l := ⟨_, rfl⟩
  rw [elp] at hlp
  rw [elc] at hlc
  have ELP := Lib.hid elp
  have ELC := Lib.hid elc
  clear elp elc
  obtain ⟨Xn, Xe, Xs, lx, Yn, Ye, Ys, ly, HXY, HXS, HYS, hXe, hYe, HR, htop, ELX, ELY, hlx, hly⟩ : ∃ (Xn : Bool) (Xe : Int) (Xs lx : Nat) (Yn : Bool) (Ye : Int) (Ys ly : Nat),
      Hid (if pe + (lp : Int) < ce + (lc : Int) then (Xn = cn ∧ Xe = ce ∧ Xs = cs ∧ Yn = pn ∧ Ye = pe ∧ Ys = ps) else (Xn = pn ∧ Xe = pe ∧ Xs = ps ∧ Yn = cn ∧ Ye = ce ∧ Ys = cs)) ∧
      Hid (0 < Xs ∧ Xs < 18446744073709551616) ∧ Hid (0 < Ys ∧ Ys < 18446744073709551616) ∧ (-10000 ≤ Xe ∧ Xe ≤ 10000) ∧ (-10000 ≤ Ye ∧ Ye ≤ 10000) ∧ Hid (sumC way Xn Xe Xs Yn Ye Ys = r) ∧ Ye + (ly : Int) ≤ Xe + (lx : Int) ∧ Hid (blen Xs = lx) ∧ Hid (blen Ys = ly) ∧ lx ≤ 64 ∧ ly ≤ 64 := by
    by_cases hlt : pe + (lp : Int) < ce + (lc : Int)
    · exact ⟨cn, ce, cs, lc, pn, pe, ps, lp, Lib.hid (by rw [if_pos hlt]; simp), hcs, hps, hce, hpe, Lib.hid (by rw [← hr.out, sumF, ELP.out, ELC.out, if_pos hlt]), by omega, ELC, ELP, hlc, hlp⟩
    · exact ⟨pn, pe, ps, lp, cn, ce, cs, lc, Lib.hid (by rw [if_neg hlt]; simp), hps, hcs, hpe, hce, Lib.hid (by rw [← hr.out, sumF, ELP.out, ELC.out, if_neg hlt]), by omega, ELP, ELC, hlp, hlc⟩
  have hw1 : wrap64 (pe + (lp : Int)) = pe + (lp : Int) := IntWalk.wrap64_in _ (by omega)
  have hw2 : wrap64 (ce + (lc : Int)) = ce + (lc : Int) := IntWalk.wrap64_in _ (by omega)
  go_enter Try.func44, Try.ntmps44
  go_wp2_with fail
  go_quiet (first
    | (go_at_call_of 58 (Value.int .u64 (ps : Int)); exact Calls.quiet_of_same (len_any ps _ hps.out.2))
    | (go_at_call_of 58 (Value.int .u64 (cs : Int)); exact Calls.quiet_of_same (len_any cs _ hcs.out.2)))
  rw [ELP.out, ELC.out]
  go_upto_if 24 with fail
  obtain ⟨sw, hsw⟩ : ∃ b, decide (wrap64 (pe + (lp : Int)) < wrap64 (ce + (lc : Int))) = b := ⟨_, rfl⟩
  simp only [hsw]
  have HSW := Lib.hid hsw
  clear hsw
  go_cut [] from 25 to 26 (fun wx => Blk wx w.heap.size 46 #[.bool Xn, .int .i64 Xe, .int .u64 (Xs : Int)] ∧ Blk wx (w.heap.size + 1) 46 #[.bool Yn, .int .i64 Ye, .int .u64 (Ys : Int)] ∧ Below w.heap.size w wx)
  case first =>
    have h := HXY.out
    by_cases hlt : pe + (lp : Int) < ce + (lc : Int)
    · obtain rfl : sw = true := HSW.out.symm.trans (by rw [hw1, hw2]; exact decide_eq_true hlt)
      clear HSW hw1 hw2
      rw [if_pos hlt] at h
      clear hlt
      obtain ⟨rfl, rfl, rfl, rfl, rfl, rfl⟩ := h
      clear HXY
      go_wp2
      go_meet
      case rel =>
        obtain ⟨q1, q2⟩ := two_boxes w #[.bool Yn, .int .i64 Ye, .int .u64 (Ys : Int)] #[.bool Xn, .int .i64 Xe, .int .u64 (Xs : Int)] nq
        refine ⟨?_, ?_, ?_⟩
        · exact (((q1.three _ _ _).far (by simp) _).far (by simp) _).far (by simp) _
        · exact (((q2.far (by simp) _).far (by simp) _).far (by simp) _).three _ _ _
        · exact ((((((below_drewN (((Below.refl w.heap.size w).alloc (Nat.le_refl _) _).alloc (by simp) _) nq).setCell (Nat.le_refl _) _).setCell (Nat.le_refl _) _).setCell (Nat.le_refl _) _).setCell (by simp) _).setCell (by simp) _).setCell (by simp) _
    · obtain rfl : sw = false := HSW.out.symm.trans (by rw [hw1, hw2]; exact decide_eq_false hlt)
      clear HSW hw1 hw2
      rw [if_neg hlt] at h
      clear hlt
      obtain ⟨rfl, rfl, rfl, rfl, rfl, rfl⟩ := h
      clear HXY
      go_wp2
      go_meet
      case rel =>
        obtain ⟨q1, q2⟩ := two_boxes w #[.bool Xn, .int .i64 Xe, .int .u64 (Xs : Int)] #[.bool Yn, .int .i64 Ye, .int .u64 (Ys : Int)] nq
        exact ⟨q1, q2, below_drewN (((Below.refl w.heap.size w).alloc (Nat.le_refl _) _).alloc (by simp) _) nq⟩
  case rest =>
    clear HXY HSW hw1 hw2 hpe hce hlp hlc hps hcs ELP ELC hr
    obtain ⟨hk4, hk5, hB⟩ := hcut
    have hz := hB.size
    obtain ⟨x0, x1, x2⟩ := blk3 hk4
    obtain ⟨y0, y1, y2⟩ := blk3 hk5
    have hw1 : wrap64 (Xe + (lx : Int)) = Xe + (lx : Int) := IntWalk.wrap64_in _ (by omega)
    obtain ⟨E, hE⟩ : ∃ E, Xe + (lx : Int) - 126 = E := ⟨_, rfl⟩
    have hw2 : wrap64 (Xe + (lx : Int) - 126) = E := by rw [hE]; exact IntWalk.wrap64_in _ (by omega)
    have HE := Lib.hid hE
    have hXE : Xe - E = 126 - (lx : Int) := by omega
    have hYE : Ye - E ≤ 126 - (ly : Int) := by omega
    have hE1 : -20000 ≤ E ∧ E ≤ 20000 := by omega
    clear hE
    go_wp2_with fail
    go_quiet (first
      | (go_at_call_of 58 (Value.int .u64 (Xs : Int)); exact Calls.quiet_of_same (len_any Xs _ HXS.out.2)))
    rw [ELX.out, hw1, hw2]
    clear x0 x1 x2 y0 y1 y2 hw1 hw2
    have hk4 := hk4.drewN nq
    have hk5 := hk5.drewN nq
    have hB := below_drewN hB nq
    have hz : w.heap.size + 1 < (wc.drewN nq).heap.size := hk5.lt
    generalize wc.drewN nq = W1 at *
    obtain ⟨x0, x1, x2⟩ := blk3 hk4
    obtain ⟨y0, y1, y2⟩ := blk3 hk5
    obtain ⟨a, ha⟩ : ∃ a, mvV Xs (126 - (lx : Int)) = a := ⟨_, rfl⟩
    obtain ⟨la, hla⟩ : ∃ a, mvL Xs (126 - (lx : Int)) = a := ⟨_, rfl⟩
    obtain ⟨b, hb⟩ : ∃ b, mvV Ys (Ye - E) = b := ⟨_, rfl⟩
    obtain ⟨lost, hlost⟩ : ∃ b, mvL Ys (Ye - E) = b := ⟨_, rfl⟩
    have ha' : a < 85070591730234615865843651857942052864 := by rw [← ha]; exact mv_top HXS.out.1 (by rw [ELX.out]; exact Int.le_refl _) HXS.out.2
    have hb' : b < 85070591730234615865843651857942052864 := by rw [← hb]; exact mv_top HYS.out.1 (by rw [ELY.out]; exact hYE) HYS.out.2
    have HSC : Hid (r = if Xn = Yn then roundWP way Xn E (a + b) lost else if lost = true then roundWP way Xn E (a - b - 1) true else if a = b then sgn (way == 2) else if a < b then roundWP way Yn E (b - a) false else roundWP way Xn E (a - b) false) := Lib.hid (by
      rw [← HR.out, sumC]
      rw [ELX.out, HE.out, hXE, ha, hb, hlost])
    have HLAB : Hid (lost = true → b + 1 ≤ a) := Lib.hid (by
      intro hl
      rw [hl] at hlost
      have hneg : ¬ 0 ≤ Ye - E := by
        intro h
        unfold mvL at hlost
        rw [if_pos h] at hlost
        cases hlost
      have h1 : b ≤ Ys := by
        rw [← hb]
        unfold mvV
        rw [if_neg hneg]
        exact Nat.div_le_self _ _
      have h2 : two 125 ≤ a := by
        rw [← ha]
        unfold mvV
        rw [if_pos (by omega)]
        have h3 := blen_le HXS.out.1
        have h4 := blen_pos HXS.out.1
        rw [ELX.out] at h3 h4
        have h5 : two (lx - 1) * two (126 - (lx : Int)).toNat ≤ Xs * two (126 - (lx : Int)).toNat := Nat.mul_le_mul_right _ h3
        rw [← two_add, show lx - 1 + (126 - (lx : Int)).toNat = 125 from by omega] at h5
        exact h5
      have h6 := HYS.out.2
      have h7 : two 125 = 42535295865117307932921825928971026432 := rfl
      omega)
    have HA := Lib.hid ha
    have HLA := Lib.hid hla
    have HBB := Lib.hid hb
    have HLO := Lib.hid hlost
    have HAL := Lib.hid ha'
    have HBL := Lib.hid hb'
    clear ha hla hb hlost ha' hb'
    go_wp2_with fail
    refine (moved_any Xs (126 - (lx : Int)) _ (Lib.hid HXS.out.2) (by omega) (Lib.hid ?_)).mono ?_
    · intro h
      have := HAL.out
      rw [← HA.out, mvV, if_pos h] at this
      omega
    rintro e W2 ⟨rfl, hB2⟩
    rw [HA.out, HLA.out]
    have hk4 := hk4.below hB2 (by omega)
    have hk5 := hk5.below hB2 hz
    have hB2' := hB.trans (hB2.mono hB.size)
    have hz2 : w.heap.size + 1 < W2.heap.size := hk5.lt
    clear x0 x1 x2 y0 y1 y2 hB hB2
    obtain ⟨x0, x1, x2⟩ := blk3 hk4
    obtain ⟨y0, y1, y2⟩ := blk3 hk5
    go_wp2_with fail
    have hk8 := Blk.new W2 73 #[.int .u64 (hiW a : Int), .int .u64 (loW a : Int)]
    have hk4 := hk4.alloc (.cells #[.int .u64 (hiW a : Int), .int .u64 (loW a : Int)] 73)
    have hk5 := hk5.alloc (.cells #[.int .u64 (hiW a : Int), .int .u64 (loW a : Int)] 73)
    have hB3 := hB2'.alloc (by omega) (.cells #[.int .u64 (hiW a : Int), .int .u64 (loW a : Int)] 73)
    have hz3 : (W2.alloc (.cells #[.int .u64 (hiW a : Int), .int .u64 (loW a : Int)] 73)).heap.size = W2.heap.size + 1 := by simp
    refine (moved_any Ys (Ye - E) _ (Lib.hid HYS.out.2) (by omega) (Lib.hid ?_)).mono ?_
    · intro h
      have := HBL.out
      rw [← HBB.out, mvV, if_pos h] at this
      omega
    rintro e W3 ⟨rfl, hB4⟩
    rw [HBB.out, HLO.out]
    have hk4 := hk4.below hB4 (by omega)
    have hk5 := hk5.below hB4 (by omega)
    have hk8 := hk8.below hB4 (by omega)
    have hB5 := hB3.trans (hB4.mono hB3.size)
    have hz5 : W2.heap.size < W3.heap.size := hk8.lt
    clear x0 x1 x2 y0 y1 y2 hB2' hB3 hB4 hz3
    go_upto_region 6 with fail
    have hk10 := Blk.new W3 73 #[.int .u64 (hiW b : Int), .int .u64 (loW b : Int)]
    have hk4 := hk4.alloc (.cells #[.int .u64 (hiW b : Int), .int .u64 (loW b : Int)] 73)
    have hk5 := hk5.alloc (.cells #[.int .u64 (hiW b : Int), .int .u64 (loW b : Int)] 73)
    have hk8 := hk8.alloc (.cells #[.int .u64 (hiW b : Int), .int .u64 (loW b : Int)] 73)
    have hB := hB5.alloc (by omega) (.cells #[.int .u64 (hiW b : Int), .int .u64 (loW b : Int)] 73)
    clear hB5
    generalize W3.alloc (.cells #[.int .u64 (hiW b : Int), .int .u64 (loW b : Int)] 73) = W at *
    obtain ⟨x0, -, -⟩ := blk3 hk4
    obtain ⟨y0, -, -⟩ := blk3 hk5
    obtain ⟨a0, a1⟩ := blk2 hk8
    obtain ⟨b0, b1⟩ := blk2 hk10
    have l4 := hk4.lt
    have l5 := hk5.lt
    have l8 := hk8.lt
    have l10 := hk10.lt
    have hz9 := hB.size
    have hal := HAL.out
    have hbl := HBL.out
    clear hk4 hk5 hk8 hk10 HXS HYS HR HE ELX ELY HA HLA HBB HLO hXE hYE
    by_cases hn : Xn = Yn
    · subst hn
      have HF : Hid (roundWP way Xn E (a + b) lost = r) := Lib.hid (by rw [HSC.out, if_pos rfl])
      clear HSC
      go_wp2
      go_region_held3 (fun w' => w'.cell? ⟨W2.heap.size, 0, none⟩ = some (.int .u64 (hiW a : Int)) ∧ w'.cell? ⟨W2.heap.size, 1, none⟩ = some (.int .u64 (loW a : Int)) ∧ w'.cell? ⟨W3.heap.size, 0, none⟩ = some (.int .u64 (hiW b : Int)) ∧ w'.cell? ⟨W3.heap.size, 1, none⟩ = some (.int .u64 (loW b : Int)) ∧ w'.cell? ⟨w.heap.size, 0, none⟩ = some (.bool Xn))
        (first
          | exact ⟨kc3 a0, kc3 a1, kc3 b0, kc3 b1, kc3 x0⟩
          | exact ⟨kc4 a0, kc4 a1, kc4 b0, kc4 b1, kc4 x0⟩
          | exact ⟨a0, a1, b0, b1, x0⟩)
        (first
          | (go_at_call 74; refine (wplus_any (v := a + b) (Lib.hid rfl) (Lib.hid (by omega))).mono ?_; rintro e w' ⟨rfl, o1, o2, o3, rfl⟩)
          | (go_at_call 75; refine (rounded_wide (v := a + b) (Lib.hid (by omega)) (by omega) HF).mono ?_; rintro e w' ⟨rfl, o4, n4, rfl⟩))
      go_wp2
      go_ret
      exact ⟨rfl, below_drewN ((((hB.alloc hz9 _).alloc (by simp; omega) _).alloc (by simp; omega) _).alloc (by simp; omega) _) _⟩
    have HSC2 : Hid (r = if lost = true then roundWP way Xn E (a - b - 1) true else if a = b then sgn (way == 2) else if a < b then roundWP way Yn E (b - a) false else roundWP way Xn E (a - b) false) := Lib.hid (by rw [HSC.out, if_neg hn])
    obtain rfl : Yn = !Xn := by cases Xn <;> cases Yn <;> simp_all
    have hq : (Xn == !Xn) = false := by cases Xn <;> rfl
    clear HSC hn
    cases lost
    case true =>
      have HF : Hid (roundWP way Xn E (a - b - 1) true = r) := Lib.hid (by rw [HSC2.out, if_pos rfl])
      have hab := HLAB.out rfl
      clear HSC2
      go_wp2
      go_region_held3 (fun w' => w'.cell? ⟨W2.heap.size, 0, none⟩ = some (.int .u64 (hiW a : Int)) ∧ w'.cell? ⟨W2.heap.size, 1, none⟩ = some (.int .u64 (loW a : Int)) ∧ w'.cell? ⟨W3.heap.size, 0, none⟩ = some (.int .u64 (hiW b : Int)) ∧ w'.cell? ⟨W3.heap.size, 1, none⟩ = some (.int .u64 (loW b : Int)) ∧ w'.cell? ⟨w.heap.size, 0, none⟩ = some (.bool Xn))
        (first
          | exact ⟨kc3 a0, kc3 a1, kc3 b0, kc3 b1, kc3 x0⟩
          | exact ⟨kc6 a0, kc6 a1, kc6 b0, kc6 b1, kc6 x0⟩
          | exact ⟨kc7 a0, kc7 a1, kc7 b0, kc7 b1, kc7 x0⟩
          | exact ⟨a0, a1, b0, b1, x0⟩)
        (first
          | (go_at_call_of 76 (Value.agg #[.int .u64 (hiW a : Int), .int .u64 (loW a : Int)]); refine (minus_any' (v := a - b) (Lib.hid (by omega)) (Lib.hid (by omega))).mono ?_; rintro e w' ⟨rfl, o1, o2, o3, rfl⟩)
          | (go_at_call_of 76 (Value.agg #[.int .u64 (hiW (a - b) : Int), .int .u64 (loW (a - b) : Int)]); refine (minus_one (v := a - b - 1) (Lib.hid (by omega)) (Lib.hid (by omega))).mono ?_; rintro e w' ⟨rfl, o4, o5, o6, rfl⟩)
          | (go_at_call 75; refine (rounded_wide (v := a - b - 1) (Lib.hid (by omega)) (by omega) HF).mono ?_; rintro e w' ⟨rfl, o7, n4, rfl⟩))
      go_wp2
      go_ret
      exact ⟨rfl, below_drewN (((((((hB.alloc hz9 _).alloc (by simp; omega) _).alloc (by simp; omega) _).alloc (by simp; omega) _).alloc (by simp; omega) _).alloc (by simp; omega) _).alloc (by simp; omega) _) _⟩
    have HSC3 : Hid (r = if a = b then sgn (way == 2) else if a < b then roundWP way (!Xn) E (b - a) false else roundWP way Xn E (a - b) false) := Lib.hid (by rw [HSC2.out, if_neg (by decide)])
    clear HSC2 HLAB
    by_cases hab : a = b
    · have HF : Hid (sgn (way == 2) = r) := Lib.hid (by rw [HSC3.out, if_pos hab])
      clear HSC3
      subst hab
      go_wp2_with fail
      refine (rsign_any _ _).mono ?_
      rintro e w' ⟨rfl, rfl⟩
      rw [HF.out]
      go_wp2
      go_ret
      exact ⟨rfl, hB⟩
    obtain ⟨ah, hah⟩ : ∃ x, hiW a = x := ⟨_, rfl⟩
    obtain ⟨al, hal'⟩ : ∃ x, loW a = x := ⟨_, rfl⟩
    obtain ⟨bh, hbh⟩ : ∃ x, hiW b = x := ⟨_, rfl⟩
    obtain ⟨bl', hbl'⟩ : ∃ x, loW b = x := ⟨_, rfl⟩
    rw [hah] at a0
    rw [hal'] at a1
    rw [hbh] at b0
    rw [hbl'] at b1
    simp only [hah, hal', hbh, hbl']
    have hne : ah = bh → al ≠ bl' := by
      intro h1 h2
      rw [← hah, ← hbh] at h1
      rw [← hal', ← hbl'] at h2
      unfold hiW at h1
      unfold loW at h2
      omega
    have HP : Hid (hiW a = ah ∧ loW a = al) := Lib.hid ⟨hah, hal'⟩
    have HQ : Hid (hiW b = bh ∧ loW b = bl') := Lib.hid ⟨hbh, hbl'⟩
    clear hah hal' hbh hbl'
    by_cases hlt : a < b
    · have HF : Hid (roundWP way (!Xn) E (b - a) false = r) := Lib.hid (by rw [HSC3.out, if_neg hab, if_pos hlt])
      clear HSC3 hab
      by_cases heq : ah = bh
      · subst heq
        have hll : ¬ (al : Int) = (bl' : Int) := by have := hne rfl; omega
        clear hne
        go_wp2_with fail
        refine (less_at HP HQ (Lib.hid (decide_eq_true hlt))).mono ?_
        rintro e w' ⟨rfl, o8, o9, rfl⟩
        have a0 := kc_alloc (o := .cells o9 73) (kc_alloc (o := .cells o8 73) a0)
        have a1 := kc_alloc (o := .cells o9 73) (kc_alloc (o := .cells o8 73) a1)
        have b0 := kc_alloc (o := .cells o9 73) (kc_alloc (o := .cells o8 73) b0)
        have b1 := kc_alloc (o := .cells o9 73) (kc_alloc (o := .cells o8 73) b1)
        have n0 := kc_alloc (o := .cells o9 73) (kc_alloc (o := .cells o8 73) y0)
        have hB := (hB.alloc hz9 (.cells o8 73)).alloc (by simp; omega) (.cells o9 73)
        have hz9 := hB.size
        clear x0 y0 l4 l5 l8 l10
        generalize (W.alloc (.cells o8 73)).alloc (.cells o9 73) = W at *
        go_wp2_with fail
        go_region_held3 (fun w' => w'.cell? ⟨W2.heap.size, 0, none⟩ = some (.int .u64 (ah : Int)) ∧ w'.cell? ⟨W2.heap.size, 1, none⟩ = some (.int .u64 (al : Int)) ∧ w'.cell? ⟨W3.heap.size, 0, none⟩ = some (.int .u64 (ah : Int)) ∧ w'.cell? ⟨W3.heap.size, 1, none⟩ = some (.int .u64 (bl' : Int)) ∧ w'.cell? ⟨w.heap.size + 1, 0, none⟩ = some (.bool (!Xn)))
          (first
            | exact ⟨kc3 a0, kc3 a1, kc3 b0, kc3 b1, kc3 n0⟩
            | exact ⟨kc4 a0, kc4 a1, kc4 b0, kc4 b1, kc4 n0⟩
            | exact ⟨a0, a1, b0, b1, n0⟩)
          (first
            | (go_at_call 76; refine (minus_at HQ HP (v := b - a) (Lib.hid (by omega)) (Lib.hid (by omega))).mono ?_; rintro e w' ⟨rfl, o1, o2, o3, rfl⟩)
            | (go_at_call 75; refine (rounded_wide (v := b - a) (Lib.hid (by omega)) (by omega) HF).mono ?_; rintro e w' ⟨rfl, o4, n4, rfl⟩))
        go_wp2
        go_ret
        exact ⟨rfl, below_drewN ((((hB.alloc hz9 _).alloc (by simp; omega) _).alloc (by simp; omega) _).alloc (by simp; omega) _) _⟩
      · have hhh : ¬ (ah : Int) = (bh : Int) := by omega
        clear hne heq
        go_wp2_with fail
        refine (less_at HP HQ (Lib.hid (decide_eq_true hlt))).mono ?_
        rintro e w' ⟨rfl, o8, o9, rfl⟩
        have a0 := kc_alloc (o := .cells o9 73) (kc_alloc (o := .cells o8 73) a0)
        have a1 := kc_alloc (o := .cells o9 73) (kc_alloc (o := .cells o8 73) a1)
        have b0 := kc_alloc (o := .cells o9 73) (kc_alloc (o := .cells o8 73) b0)
        have b1 := kc_alloc (o := .cells o9 73) (kc_alloc (o := .cells o8 73) b1)
        have n0 := kc_alloc (o := .cells o9 73) (kc_alloc (o := .cells o8 73) y0)
        have hB := (hB.alloc hz9 (.cells o8 73)).alloc (by simp; omega) (.cells o9 73)
        have hz9 := hB.size
        clear x0 y0 l4 l5 l8 l10
        generalize (W.alloc (.cells o8 73)).alloc (.cells o9 73) = W at *
        go_wp2_with fail
        go_region_held3 (fun w' => w'.cell? ⟨W2.heap.size, 0, none⟩ = some (.int .u64 (ah : Int)) ∧ w'.cell? ⟨W2.heap.size, 1, none⟩ = some (.int .u64 (al : Int)) ∧ w'.cell? ⟨W3.heap.size, 0, none⟩ = some (.int .u64 (bh : Int)) ∧ w'.cell? ⟨W3.heap.size, 1, none⟩ = some (.int .u64 (bl' : Int)) ∧ w'.cell? ⟨w.heap.size + 1, 0, none⟩ = some (.bool (!Xn)))
          (first
            | exact ⟨kc3 a0, kc3 a1, kc3 b0, kc3 b1, kc3 n0⟩
            | exact ⟨kc4 a0, kc4 a1, kc4 b0, kc4 b1, kc4 n0⟩
            | exact ⟨a0, a1, b0, b1, n0⟩)
          (first
            | (go_at_call 76; refine (minus_at HQ HP (v := b - a) (Lib.hid (by omega)) (Lib.hid (by omega))).mono ?_; rintro e w' ⟨rfl, o1, o2, o3, rfl⟩)
            | (go_at_call 75; refine (rounded_wide (v := b - a) (Lib.hid (by omega)) (by omega) HF).mono ?_; rintro e w' ⟨rfl, o4, n4, rfl⟩))
        go_wp2
        go_ret
        exact ⟨rfl, below_drewN ((((hB.alloc hz9 _).alloc (by simp; omega) _).alloc (by simp; omega) _).alloc (by simp; omega) _) _⟩
    · have HF : Hid (roundWP way Xn E (a - b) false = r) := Lib.hid (by rw [HSC3.out, if_neg hab, if_neg hlt])
      clear HSC3 hab
      by_cases heq : ah = bh
      · subst heq
        have hll : ¬ (al : Int) = (bl' : Int) := by have := hne rfl; omega
        clear hne
        go_wp2_with fail
        refine (less_at HP HQ (Lib.hid (decide_eq_false hlt))).mono ?_
        rintro e w' ⟨rfl, o8, o9, rfl⟩
        have a0 := kc_alloc (o := .cells o9 73) (kc_alloc (o := .cells o8 73) a0)
        have a1 := kc_alloc (o := .cells o9 73) (kc_alloc (o := .cells o8 73) a1)
        have b0 := kc_alloc (o := .cells o9 73) (kc_alloc (o := .cells o8 73) b0)
        have b1 := kc_alloc (o := .cells o9 73) (kc_alloc (o := .cells o8 73) b1)
        have n0 := kc_alloc (o := .cells o9 73) (kc_alloc (o := .cells o8 73) x0)
        have hB := (hB.alloc hz9 (.cells o8 73)).alloc (by simp; omega) (.cells o9 73)
        have hz9 := hB.size
        clear x0 y0 l4 l5 l8 l10
        generalize (W.alloc (.cells o8 73)).alloc (.cells o9 73) = W at *
        go_wp2_with fail
        go_region_held3 (fun w' => w'.cell? ⟨W2.heap.size, 0, none⟩ = some (.int .u64 (ah : Int)) ∧ w'.cell? ⟨W2.heap.size, 1, none⟩ = some (.int .u64 (al : Int)) ∧ w'.cell? ⟨W3.heap.size, 0, none⟩ = some (.int .u64 (ah : Int)) ∧ w'.cell? ⟨W3.heap.size, 1, none⟩ = some (.int .u64 (bl' : Int)) ∧ w'.cell? ⟨w.heap.size, 0, none⟩ = some (.bool (Xn)))
          (first
            | exact ⟨kc3 a0, kc3 a1, kc3 b0, kc3 b1, kc3 n0⟩
            | exact ⟨kc4 a0, kc4 a1, kc4 b0, kc4 b1, kc4 n0⟩
            | exact ⟨a0, a1, b0, b1, n0⟩)
          (first
            | (go_at_call 76; refine (minus_at HP HQ (v := a - b) (Lib.hid (by omega)) (Lib.hid (by omega))).mono ?_; rintro e w' ⟨rfl, o1, o2, o3, rfl⟩)
            | (go_at_call 75; refine (rounded_wide (v := a - b) (Lib.hid (by omega)) (by omega) HF).mono ?_; rintro e w' ⟨rfl, o4, n4, rfl⟩))
        go_wp2
        go_ret
        exact ⟨rfl, below_drewN ((((hB.alloc hz9 _).alloc (by simp; omega) _).alloc (by simp; omega) _).alloc (by simp; omega) _) _⟩
      · have hhh : ¬ (ah : Int) = (bh : Int) := by omega
        clear hne heq
        go_wp2_with fail
        refine (less_at HP HQ (Lib.hid (decide_eq_false hlt))).mono ?_
        rintro e w' ⟨rfl, o8, o9, rfl⟩
        have a0 := kc_alloc (o := .cells o9 73) (kc_alloc (o := .cells o8 73) a0)
        have a1 := kc_alloc (o := .cells o9 73) (kc_alloc (o := .cells o8 73) a1)
        have b0 := kc_alloc (o := .cells o9 73) (kc_alloc (o := .cells o8 73) b0)
        have b1 := kc_alloc (o := .cells o9 73) (kc_alloc (o := .cells o8 73) b1)
        have n0 := kc_alloc (o := .cells o9 73) (kc_alloc (o := .cells o8 73) x0)
        have hB := (hB.alloc hz9 (.cells o8 73)).alloc (by simp; omega) (.cells o9 73)
        have hz9 := hB.size
        clear x0 y0 l4 l5 l8 l10
        generalize (W.alloc (.cells o8 73)).alloc (.cells o9 73) = W at *
        go_wp2_with fail
        go_region_held3 (fun w' => w'.cell? ⟨W2.heap.size, 0, none⟩ = some (.int .u64 (ah : Int)) ∧ w'.cell? ⟨W2.heap.size, 1, none⟩ = some (.int .u64 (al : Int)) ∧ w'.cell? ⟨W3.heap.size, 0, none⟩ = some (.int .u64 (bh : Int)) ∧ w'.cell? ⟨W3.heap.size, 1, none⟩ = some (.int .u64 (bl' : Int)) ∧ w'.cell? ⟨w.heap.size, 0, none⟩ = some (.bool (Xn)))
          (first
            | exact ⟨kc3 a0, kc3 a1, kc3 b0, kc3 b1, kc3 n0⟩
            | exact ⟨kc4 a0, kc4 a1, kc4 b0, kc4 b1, kc4 n0⟩
            | exact ⟨a0, a1, b0, b1, n0⟩)
          (first
            | (go_at_call 76; refine (minus_at HP HQ (v := a - b) (Lib.hid (by omega)) (Lib.hid (by omega))).mono ?_; rintro e w' ⟨rfl, o1, o2, o3, rfl⟩)
            | (go_at_call 75; refine (rounded_wide (v := a - b) (Lib.hid (by omega)) (by omega) HF).mono ?_; rintro e w' ⟨rfl, o4, n4, rfl⟩))
        go_wp2
        go_ret
        exact ⟨rfl, below_drewN ((((hB.alloc hz9 _).alloc (by simp; omega) _).alloc (by simp; omega) _).alloc (by simp; omega) _) _⟩
end Go.Proofs.Ytanccobllehnaaa
