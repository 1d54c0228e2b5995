/- The writer's tensor, none. -/
import Derived.Test.YtlhpmlknmgocoaaGreatOnCa
import Derived.Test.YtlhpmlknmgocoaaGreatOnH
namespace Go.Proofs.YtlhpmlknmgocoaaGreat
set_option linter.unusedSimpArgs false
set_option linter.unusedVariables false
open Go.RowKit

theorem noneT_int (t : Tn) : noneT t = (decide (t.ty.toInt = 0) && decide ((t.dims.length : Int) + (t.f.length : Int) + (t.i.length : Int) + (t.b.length : Int) = 0)) := by
  have e0 : decide (t.ty = 0) = decide (t.ty.toInt = 0) := by rw [decide_eq_decide, ← Int64.toInt_inj]; rfl
  unfold noneT
  rw [e0]
  obtain ⟨ty, dims, f, i, b⟩ := t
  dsimp only
  cases dims <;> cases f <;> cases i <;> cases b <;> simp <;> intro _ <;> omega
theorem eq3_run (a b c a' b' c' : Int) (w : World) : (Op.equalIn 10000 105 (.agg #[.int .i64 a, .int .i64 b, .int .i64 c]) (.agg #[.int .i64 a', .int .i64 b', .int .i64 c'])).run Tryz.prog w = .ok (a == a' && b == b' && c == c') w := by
  have u3 := Tryz.underlying3
  have a3 := Tryz.isAgg3
  have z3 := Tryz.sizeOf3
  rw [show (10000 : Nat) = 9999 + 1 from rfl, Op.equalIn]
  simp only [Sem.run_bind, run_underlying Tryz.underlying105, Result.andThen_ok]
  simp only [Std.Legacy.Range.forIn_eq_forIn_range', Std.Legacy.Range.size, Nat.sub_zero, Nat.add_sub_cancel, Nat.div_one, List.range'_succ, List.range'_zero, List.forIn_cons, List.forIn_nil]
  go_simp
  by_cases h1 : a = a' <;> by_cases h2 : b = b' <;> by_cases h3 : c = c' <;> simp [h1, h2, h3]
section
variable {g : Nat} {b m : Bool} {S : Nat → Prop} {us : List Value} {w : World}
set_option maxRecDepth 100000 in
theorem none_any {t : Tn} (hl : HL w S (datT t) us) : Calls Tryz.prog 79 #[.agg us.toArray] w fun e w' => e = .returned (.bool (noneT t)) ∧ Below w.heap.size w w' := by
  obtain ⟨A1, c1, A2, c2, A3, c3, A4, c4, rfl, -, -, -, -, b1, b2, b3, b4⟩ := hl.ten
  rw [noneT_int]
  clear hl
  generalize t.ty.toInt = d at *
  generalize t.dims.length = n1 at *
  generalize t.f.length = n2 at *
  generalize t.i.length = n3 at *
  generalize t.b.length = n4 at *
  by_cases h0 : d = 0
  · subst h0
    go_enter Tryz.func79, Tryz.ntmps79
    go_wp2
    go_ret
    exact ⟨by simp; rfl, (Below.refl _ _).alloc (Nat.le_refl _) _⟩
  · have e0 : (d == 0) = false := by simpa using h0
    have e1 : decide (d = 0) = false := by simpa using h0
    rw [e1]
    go_enter Tryz.func79, Tryz.ntmps79
    go_wp2
    go_ret
    exact ⟨rfl, (Below.refl _ _).alloc (Nat.le_refl _) _⟩

set_option maxRecDepth 100000 in
set_option maxHeartbeats 1600000 in
theorem wtensor_any {t : Tn} (hk : WrB w g b m) (hl : HL w S (datT t) us) :
    Calls Tryz.prog 21 #[.pointer (some ⟨g, 0, none⟩), .agg us.toArray] w (WN w g (b || badT t) (m || manyT false t)) := by
  obtain ⟨A1, c1, A2, c2, A3, c3, A4, c4, rfl, h1, h2, h3, h4, b1, b2, b3, b4⟩ := hl.ten
  have hlt := hk.lt
  have HC := Lib.hid (wcount_any (hk.alloc (.cells #[.int .i64 t.ty.toInt, .slice A1 t.dims.length c1, .slice A2 t.f.length c2, .slice A3 t.i.length c3, .slice A4 t.b.length c4] 55)) (h1.alloc _))
  go_enter Tryz.func21, Tryz.ntmps21
  go_wp2_with fail
  refine Calls.mono HC.out ?_
  rintro e w1 ⟨rfl, hk1, hg1⟩
  have herr := cnt_err t.dims
  have hval := cnt_val t.dims
  have HB : Hid (badT t = (!knownP t.ty || decide ((cnt t.dims).2 = 1) || (decide ((cnt t.dims).2 = 0) && !wantT (cnt t.dims).1 t))) := Lib.hid rfl
  have HM : Hid (manyT false t = decide ((cnt t.dims).2 = 8)) := Lib.hid (by simp [manyT])
  obtain ⟨p0, p1, p2, p3, p4, -, -, -, -, -, lp⟩ := blkc5 ((Blk.new w 55 #[.int .i64 t.ty.toInt, .slice A1 t.dims.length c1, .slice A2 t.f.length c2, .slice A3 t.i.length c3, .slice A4 t.b.length c4]).grown hg1 (fun e => by injection e with e; omega))
  obtain ⟨k0, k1, z0, z1, hgw⟩ := hk1.cells
  obtain ⟨⟨cn, er⟩, hr⟩ : ∃ r, cnt t.dims = r := ⟨_, rfl⟩
  rw [hr] at HB HM herr hval k0 k1 hk1 ⊢
  dsimp only at *
  have HK := Lib.hid hk1
  have HG := Lib.hid (grown_trans (grown_alloc (.cells #[.int .i64 t.ty.toInt, .slice A1 t.dims.length c1, .slice A2 t.f.length c2, .slice A3 t.i.length c3, .slice A4 t.b.length c4] 55) (some g)) hg1)
  have hw : ∀ k : Int64, t.ty = k ↔ t.ty.toInt = k.toInt := fun k => Int64.toInt_inj.symm
  have HT1 := hw 1
  have HT7 := hw 7
  have HT9 := hw 9
  have HKN := Lib.hid (knownP_int t.ty)
  have HW1 : Hid (t.ty.toInt = 1 → wantT cn t = (decide ((t.f.length : Int) = cn) && decide ((t.i.length : Int) = 0) && decide ((t.b.length : Int) = 0))) := Lib.hid (fun h => by
    have h1 : t.ty = 1 := HT1.2 h
    unfold wantT
    rw [if_pos h1]
    cases t.i <;> cases t.b <;> simp <;> omega)
  have HW7 : Hid (t.ty.toInt = 7 → wantT cn t = (decide ((t.i.length : Int) = cn) && decide ((t.f.length : Int) = 0) && decide ((t.b.length : Int) = 0))) := Lib.hid (fun h => by
    have h1 : t.ty = 7 := HT7.2 h
    unfold wantT
    rw [if_neg (by rw [h1]; decide), if_pos h1]
    cases t.f <;> cases t.b <;> simp <;> omega)
  have HW9 : Hid (t.ty.toInt = 9 → wantT cn t = (decide ((t.b.length : Int) = cn) && decide ((t.f.length : Int) = 0) && decide ((t.i.length : Int) = 0))) := Lib.hid (fun h => by
    have h1 : t.ty = 9 := HT9.2 h
    unfold wantT
    rw [if_neg (by rw [h1]; decide), if_neg (by rw [h1]; decide)]
    cases t.f <;> cases t.i <;> simp <;> omega)
  clear HT1 HT7 HT9 hw hr h1 h2 h3 h4 HC hk hl hk1 hg1
  generalize wantT cn t = wt at *
  generalize knownP t.ty = kn at *
  generalize t.ty.toInt = d at *
  generalize t.dims.length = n1 at *
  generalize t.f.length = n2 at *
  generalize t.i.length = n3 at *
  generalize t.b.length = n4 at *
  obtain ⟨q, hq⟩ : ∃ q, (b || decide (er = 1)) = q := ⟨_, rfl⟩
  rw [hq] at k0
  have HQ := Lib.hid hq
  clear hq
  have hEQ := eq3_run
  by_cases hd1 : d = 1
  · subst hd1
    have HWW := Lib.hid (HW1.out rfl)
    clear HW1 HW7 HW9
    rcases herr with rfl | rfl | rfl
    all_goals
      cases q
      all_goals
        go_wp2
        go_end0
        refine ⟨rfl, ((HK.out.set0 _).alloc _).to ?_ (by rw [HM.out]), grown_trans HG.out (grown_trans (grown_set _ _ _ _) (grown_alloc _ _))⟩
        rw [HB.out, HWW.out, HKN.out]
        have h9 := HQ.out
        cases b
        all_goals first
          | (exfalso; simp at h9; done)
          | (simp [knownI]; done)
          | (rw [Bool.eq_iff_iff]; simp [knownI]; omega)
  have e1 : (d == 1) = false := by simpa using hd1
  by_cases hd7 : d = 7
  · subst hd7
    have HWW := Lib.hid (HW7.out rfl)
    clear HW1 HW7 HW9
    rcases herr with rfl | rfl | rfl
    all_goals
      cases q
      all_goals
        go_wp2
        go_end0
        refine ⟨rfl, ((HK.out.set0 _).alloc _).to ?_ (by rw [HM.out]), grown_trans HG.out (grown_trans (grown_set _ _ _ _) (grown_alloc _ _))⟩
        rw [HB.out, HWW.out, HKN.out]
        have h9 := HQ.out
        cases b
        all_goals first
          | (exfalso; simp at h9; done)
          | (simp [knownI]; done)
          | (rw [Bool.eq_iff_iff]; simp [knownI]; omega)
  have e7 : (d == 7) = false := by simpa using hd7
  by_cases hd9 : d = 9
  · subst hd9
    have HWW := Lib.hid (HW9.out rfl)
    clear HW1 HW7 HW9
    rcases herr with rfl | rfl | rfl
    all_goals
      cases q
      all_goals
        go_wp2
        go_end0
        refine ⟨rfl, ((HK.out.set0 _).alloc _).to ?_ (by rw [HM.out]), grown_trans HG.out (grown_trans (grown_set _ _ _ _) (grown_alloc _ _))⟩
        rw [HB.out, HWW.out, HKN.out]
        have h9 := HQ.out
        cases b
        all_goals first
          | (exfalso; simp at h9; done)
          | (simp [knownI]; done)
          | (rw [Bool.eq_iff_iff]; simp [knownI]; omega)
  have e9 : (d == 9) = false := by simpa using hd9
  have HKF : Hid (knownI d = false) := Lib.hid (by simp [knownI, hd1, hd7, hd9])
  clear hd1 hd7 hd9
  go_wp2
  go_end0
  exact ⟨rfl, ((HK.out.set0 _).alloc _).to (by rw [HB.out, HKN.out, HKF.out]; simp) (by rw [HM.out]), grown_trans HG.out (grown_trans (grown_set _ _ _ _) (grown_alloc _ _))⟩
end
end Go.Proofs.YtlhpmlknmgocoaaGreat
