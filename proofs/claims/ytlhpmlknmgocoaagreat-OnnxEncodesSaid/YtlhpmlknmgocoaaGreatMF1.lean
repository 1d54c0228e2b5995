import Derived.Test.YtlhpmlknmgocoaaGreatOnCb
import Derived.Test.YtlhpmlknmgocoaaGreatOnRc
import Derived.Test.YtlhpmlknmgocoaaGreatOnCe
import Derived.Deep.CutBlock
import Derived.Test.YtlhpmlknmgocoaaGreatMC
import Derived.Test.YtlhpmlknmgocoaaGreatOnCh
/- The document's answer: what is noted of a model that is to be written, the small methods. -/
namespace Go.Proofs.YtlhpmlknmgocoaaGreat
set_option linter.unusedSimpArgs false
set_option linter.unusedVariables false
open Go.RowKit

def FgB (w : World) (g : Nat) (b m : Bool) : Prop := Blk w g 79 #[.bool b, .bool false, .bool m]
section
variable {w w' : World} {g : Nat} {b m : Bool}
theorem FgB.set0 (h : FgB w g b m) (x : Bool) : FgB (w.setCell ⟨g, 0, none⟩ (.bool x)) g x m := by
  have := h.set_ 0 (.bool x)
  simpa [FgB] using this
theorem FgB.set2 (h : FgB w g b m) (x : Bool) : FgB (w.setCell ⟨g, 2, none⟩ (.bool x)) g b x := by
  have := h.set_ 2 (.bool x)
  simpa [FgB] using this
theorem FgB.past (h : FgB w g b m) (hb : Below w.heap.size w w') : FgB w' g b m := Blk.below h hb h.lt
theorem FgB.alloc (h : FgB w g b m) (o : Obj) : FgB (w.alloc o) g b m := Blk.alloc h o
theorem FgB.to {b' m' : Bool} (h : FgB w g b m) (e : b = b') (e' : m = m') : FgB w g b' m' := e ▸ e' ▸ h
theorem FgB.cells (h : FgB w g b m) : w.cell? ⟨g, 0, none⟩ = some (.bool b) ∧ w.cell? ⟨g, 1, none⟩ = some (.bool false) ∧ w.cell? ⟨g, 2, none⟩ = some (.bool m) ∧ w.frozen? ⟨g, 0, none⟩ = false ∧ w.frozen? ⟨g, 1, none⟩ = false ∧ w.frozen? ⟨g, 2, none⟩ = false ∧ g < w.heap.size :=
  ⟨h.cell 0, h.cell 1, h.cell 2, h.frozen 0, h.frozen 1, h.frozen 2, h.lt⟩
end
/-- a call that only notes -/
def FN (w : World) (g : Nat) (b m : Bool) (e : Ending) (w' : World) : Prop := e = .returned (.tuple #[]) ∧ FgB w' g b m ∧ w.grownBy w' (some g)
theorem grown_same (w : World) (r : Option Nat) : w.grownBy w r := grown_past (Below.refl _ _) r
theorem ofBool_or_true (b : Bool) : (true : Bool) = (b || true) := by simp

section
variable {g : Nat} {b m : Bool} {S : Nat → Prop} {us : List Value} {v : Value} {w : World}
set_option maxRecDepth 100000 in
theorem flong_any {s : List UInt8} (hk : FgB w g b m) : Calls Tryz.prog 31 #[.pointer (some ⟨g, 0, none⟩), .string ⟨s.toArray⟩] w (FN w g b (m || longP s)) := by
  obtain ⟨k0, k1, k2, z0, z1, z2, hgw⟩ := hk.cells
  have HK := Lib.hid hk
  clear hk
  by_cases h : 256 < s.length
  · have HL : Hid (longP s = true) := Lib.hid (by simp [longP, h])
    go_enter Tryz.func31, Tryz.ntmps31
    go_wp2
    go_end0
    exact ⟨rfl, (HK.out.set2 true).to rfl (by rw [HL.out]; simp), grown_set _ _ _ _⟩
  · have HL : Hid (longP s = false) := Lib.hid (by simp [longP]; omega)
    go_enter Tryz.func31, Tryz.ntmps31
    go_wp2
    go_end0
    exact ⟨rfl, HK.out.to rfl (by rw [HL.out]; simp), grown_same _ _⟩
set_option maxRecDepth 100000 in
theorem fdims_any {l : List Int64} (hk : FgB w g b m) (hv : Held w S (datI l) v) :
    Calls Tryz.prog 59 #[.pointer (some ⟨g, 0, none⟩), v] w fun e w' =>
      e = .returned (.int .i64 (if (cnt l).2 = 0 then (cnt l).1 else -1)) ∧ FgB w' g (b || decide ((cnt l).2 = 1)) (m || decide ((cnt l).2 = 8)) ∧ w.grownBy w' (some g) := by
  have HC := Lib.hid (orcount_any hv)
  obtain ⟨A, c, rfl, -⟩ := Held.form1 hv
  have herr := cnt_err l
  obtain ⟨⟨cn, er⟩, hr⟩ : ∃ r, cnt l = r := ⟨_, rfl⟩
  rw [hr] at HC herr ⊢
  dsimp only at *
  obtain ⟨k0, k1, k2, z0, z1, z2, hgw⟩ := hk.cells
  have HK := Lib.hid hk
  clear hk hv hr
  go_enter Tryz.func59, Tryz.ntmps59
  go_wp2_with fail
  refine HC.out.mono ?_
  rintro e w' ⟨rfl, hw'⟩
  subst w'
  rcases herr with rfl | rfl | rfl
  · go_wp2
    go_ret
    exact ⟨rfl, HK.out.to (by simp) (by simp), grown_same _ _⟩
  · go_wp2
    go_ret
    exact ⟨rfl, (HK.out.set0 true).to (by simp) (by simp), grown_set _ _ _ _⟩
  · go_wp2
    go_ret
    exact ⟨rfl, (HK.out.set2 true).to (by simp) (by simp), grown_set _ _ _ _⟩
set_option maxRecDepth 100000 in
theorem rknown_any (k : Int) (w : World) : Calls Tryz.prog 58 #[.int .i64 k] w fun e w' => e = .returned (.bool (knownI k)) ∧ w' = w := by
  by_cases h1 : k = 1
  · subst h1
    go_enter Tryz.func58, Tryz.ntmps58
    go_wp2
    go_ret
    exact ⟨rfl, rfl⟩
  have e1 : (k == 1) = false := by simpa using h1
  by_cases h7 : k = 7
  · subst h7
    go_enter Tryz.func58, Tryz.ntmps58
    go_wp2
    go_ret
    exact ⟨rfl, rfl⟩
  have e7 : (k == 7) = false := by simpa using h7
  have HE : Hid (knownI k = (k == 9)) := Lib.hid (by simp only [knownI, h1, h7, decide_false, Bool.false_or]; rfl)
  clear h1 h7
  go_enter Tryz.func58, Tryz.ntmps58
  go_wp2
  go_ret
  exact ⟨by rw [HE.out]; rfl, rfl⟩
/-- how many elements of a tensor are of its type, and how many are not -/
def ownT (t : Tn) : Nat := if t.ty = 1 then t.f.length else if t.ty = 7 then t.i.length else t.b.length
def allT (t : Tn) : Nat := t.f.length + t.i.length + t.b.length
theorem wantT_own (n : Int) (t : Tn) : wantT n t = (decide ((ownT t : Int) = n) && decide (((allT t : Int) - ownT t) = 0)) := by
  unfold wantT ownT allT
  obtain ⟨ty, dims, f, i, b⟩ := t
  dsimp only
  by_cases h1 : ty = 1
  · subst h1
    rw [if_pos rfl, if_pos rfl]
    cases i <;> cases b <;> simp <;> omega
  rw [if_neg h1, if_neg h1]
  by_cases h7 : ty = 7
  · subst h7
    rw [if_pos rfl, if_pos rfl]
    cases f <;> cases b <;> simp <;> omega
  rw [if_neg h7, if_neg h7]
  cases f <;> cases i <;> simp <;> omega
set_option maxRecDepth 100000 in
theorem fhas_any {t : Tn} {A1 A2 A3 A4 : Option Addr} {c1 c2 c3 c4 : Nat} (b2 : t.f.length ≤ 140737488355328) (b3 : t.i.length ≤ 140737488355328) (b4 : t.b.length ≤ 140737488355328) :
    Calls Tryz.prog 60 #[.agg #[.int .i64 t.ty.toInt, .slice A1 t.dims.length c1, .slice A2 t.f.length c2, .slice A3 t.i.length c3, .slice A4 t.b.length c4]] w fun e w' => e = .returned (.tuple #[.int .i64 (ownT t : Int), .int .i64 ((allT t : Int) - ownT t)]) ∧ Below w.heap.size w w' := by
  have hw : ∀ k : Int64, t.ty = k ↔ t.ty.toInt = k.toInt := fun k => Int64.toInt_inj.symm
  have HT1 : Hid (t.ty.toInt = 1 → ownT t = t.f.length) := Lib.hid fun h => by unfold ownT; rw [if_pos ((hw 1).2 h)]
  have HT7 : Hid (t.ty.toInt = 7 → ownT t = t.i.length) := Lib.hid fun h => by unfold ownT; rw [if_neg (fun h' => by rw [(hw 1).1 h'] at h; revert h; decide), if_pos ((hw 7).2 h)]
  have HT9 : Hid (¬ t.ty.toInt = 1 → ¬ t.ty.toInt = 7 → ownT t = t.b.length) := Lib.hid fun h h' => by unfold ownT; rw [if_neg (fun e => h ((hw 1).1 e)), if_neg (fun e => h' ((hw 7).1 e))]
  have HA : Hid (allT t = t.f.length + t.i.length + t.b.length) := Lib.hid rfl
  clear hw
  generalize ownT t = on at *
  generalize allT t = al at *
  generalize t.ty.toInt = d at *
  generalize t.dims.length = n1 at *
  generalize t.f.length = n2 at *
  generalize t.i.length = n3 at *
  generalize t.b.length = n4 at *
  obtain ⟨W1, hW1⟩ : ∃ W1, w.alloc (.cells #[.int .i64 d, .slice A1 n1 c1, .slice A2 n2 c2, .slice A3 n3 c3, .slice A4 n4 c4] 55) = W1 := ⟨_, rfl⟩
  have hb1 : Blk W1 w.heap.size 55 #[.int .i64 d, .slice A1 n1 c1, .slice A2 n2 c2, .slice A3 n3 c3, .slice A4 n4 c4] := by rw [← hW1]; exact Blk.new _ _ _
  have HB : Hid (Below w.heap.size w W1) := Lib.hid (by rw [← hW1]; exact (Below.refl _ _).alloc (Nat.le_refl _) _)
  obtain ⟨p0, p1, p2, p3, p4, -, -, -, -, -, lp⟩ := blkc5 hb1
  clear hb1
  go_enter Tryz.func60, Tryz.ntmps60
  go_upto_region 1 with fail
  try rw [hW1]
  clear hW1
  by_cases h1 : d = 1
  · subst h1
    have H := Lib.hid (HT1.out rfl)
    clear HT1 HT7 HT9
    go_wp2
    go_quiet (fail)
    go_wp2
    go_ret2
    exact ⟨by rw [H.out, HA.out]; first | (simp; done) | (simp; omega), below_drewN HB.out _⟩
  have e1 : (d == 1) = false := by simpa using h1
  by_cases h7 : d = 7
  · subst h7
    have H := Lib.hid (HT7.out rfl)
    clear HT1 HT7 HT9
    go_wp2
    go_quiet (fail)
    go_wp2
    go_ret2
    exact ⟨by rw [H.out, HA.out]; first | (simp; done) | (simp; omega), below_drewN HB.out _⟩
  · have e7 : (d == 7) = false := by simpa using h7
    have H := Lib.hid (HT9.out h1 h7)
    clear HT1 HT7 HT9 h1 h7
    go_wp2
    go_quiet (fail)
    go_wp2
    go_ret2
    exact ⟨by rw [H.out, HA.out]; first | (simp; done) | (simp; omega), below_drewN HB.out _⟩
set_option maxRecDepth 100000 in
theorem fempty_any {t : Tn} (hl : HL w S (datT t) us) : Calls Tryz.prog 82 #[.agg us.toArray] w fun e w' => e = .returned (.bool (noneT t)) ∧ Below w.heap.size w w' := by
  obtain ⟨A1, c1, A2, c2, A3, c3, A4, c4, rfl, -, -, -, -, b1, b2, b3, b4⟩ := hl.ten
  rw [noneT_int]
  clear hl
  generalize t.ty.toInt = d at *
  generalize t.dims.length = n1 at *
  generalize t.f.length = n2 at *
  generalize t.i.length = n3 at *
  generalize t.b.length = n4 at *
  by_cases h0 : d = 0
  · subst h0
    go_enter Tryz.func82, Tryz.ntmps82
    go_wp2
    go_ret
    exact ⟨by simp; rfl, (Below.refl _ _).alloc (Nat.le_refl _) _⟩
  · have e0 : (d == 0) = false := by simpa using h0
    have e1 : decide (d = 0) = false := by simpa using h0
    rw [e1]
    go_enter Tryz.func82, Tryz.ntmps82
    go_wp2
    go_ret
    exact ⟨rfl, (Below.refl _ _).alloc (Nat.le_refl _) _⟩
set_option maxRecDepth 100000 in
set_option maxHeartbeats 1600000 in
theorem fwrong_any {t : Tn} (hk : FgB w g b m) (hl : HL w S (datT t) us) :
    Calls Tryz.prog 33 #[.pointer (some ⟨g, 0, none⟩), .agg us.toArray] w (FN w g (b || badT t) (m || manyT true t)) := by
  have hl0 := hl
  obtain ⟨A1, c1, A2, c2, A3, c3, A4, c4, rfl, hd1, -, -, -, b1, b2, b3, b4⟩ := hl.ten
  have hlt := hk.lt
  obtain ⟨cs, hcs⟩ : ∃ cs : Array Value, #[.int .i64 t.ty.toInt, .slice A1 t.dims.length c1, .slice A2 t.f.length c2, .slice A3 t.i.length c3, .slice A4 t.b.length c4] = cs := ⟨_, rfl⟩
  obtain ⟨W1, hW1⟩ : ∃ W1, w.alloc (.cells #[.int .i64 t.ty.toInt, .slice A1 t.dims.length c1, .slice A2 t.f.length c2, .slice A3 t.i.length c3, .slice A4 t.b.length c4] 55) = W1 := ⟨_, rfl⟩
  have hb1 : Blk W1 w.heap.size 55 #[.int .i64 t.ty.toInt, .slice A1 t.dims.length c1, .slice A2 t.f.length c2, .slice A3 t.i.length c3, .slice A4 t.b.length c4] := by rw [← hW1]; exact Blk.new _ _ _
  have hg1 : w.grownBy W1 (some g) := by rw [← hW1]; exact grown_alloc _ _
  have hk1 : FgB W1 g b m := by rw [← hW1]; exact hk.alloc _
  have hd1' : Held W1 S (datI t.dims) (.slice A1 t.dims.length c1) := by rw [← hW1]; exact hd1.alloc _
  have hl1 : HL W1 S (datT t) [.int .i64 t.ty.toInt, .slice A1 t.dims.length c1, .slice A2 t.f.length c2, .slice A3 t.i.length c3, .slice A4 t.b.length c4] := by rw [← hW1]; exact hl0.keep fun h => h.alloc _
  have HKN := Lib.hid (knownP_int t.ty)
  have HBT : Hid (badT t = (!knownP t.ty || decide ((cnt t.dims).2 = 1) || (decide ((cnt t.dims).2 = 0) && !wantT (cnt t.dims).1 t))) := Lib.hid rfl
  have HMT : Hid (manyT true t = (decide ((cnt t.dims).2 = 8) && knownP t.ty)) := Lib.hid (by simp [manyT])
  have HWO := Lib.hid (wantT_own (cnt t.dims).1 t)
  have herr := cnt_err t.dims
  have hval := cnt_val t.dims
  have HG1 := Lib.hid hg1
  have HK1 := Lib.hid hk1
  have HB1 := Lib.hid hb1
  have HD1 := Lib.hid hd1'
  have HL1 := Lib.hid hl1
  clear hl hl0 hcs hg1 hk1 hd1 hd1' hl1 hk
  obtain ⟨p0, p1, p2, p3, p4, -, -, -, -, -, lp⟩ := blkc5 hb1
  clear hb1
  go_enter Tryz.func33, Tryz.ntmps33
  go_upto_region 1 with fail
  try rw [hW1]
  clear hW1
  obtain ⟨kn, hkn⟩ : ∃ x, knownI t.ty.toInt = x := ⟨_, rfl⟩
  rw [hkn] at HKN
  go_wp2_with fail
  refine Calls.mono (rknown_any _ _) ?_
  rintro e w' ⟨rfl, hw'⟩
  subst w'
  rw [hkn]
  clear hkn
  cases kn
  · obtain ⟨k0, k1, k2, z0, z1, z2, hgw⟩ := HK1.out.cells
    go_wp2
    go_end0
    exact ⟨rfl, (HK1.out.set0 true).to (by rw [HBT.out, HKN.out]; simp) (by rw [HMT.out, HKN.out]; simp), grown_trans HG1.out (grown_set _ _ _ _)⟩
  have HC2 := Lib.hid (fdims_any HK1.out HD1.out)
  go_wp2_with fail
  refine Calls.mono HC2.out ?_
  rintro e W2 ⟨rfl, hk2, hg2⟩
  have hb2 := HB1.out.grown hg2 (fun e => by injection e with e; omega)
  have HG2 := Lib.hid (grown_trans HG1.out hg2)
  obtain ⟨p0, p1, p2, p3, p4, -, -, -, -, -, lp⟩ := blkc5 hb2
  have HC3 := Lib.hid (fhas_any (t := t) (w := W2) (A1 := A1) (c1 := c1) (A2 := A2) (c2 := c2) (A3 := A3) (c3 := c3) (A4 := A4) (c4 := c4) b2 b3 b4)
  have HK2 := Lib.hid hk2
  obtain ⟨⟨cn, er⟩, hr⟩ : ∃ r, cnt t.dims = r := ⟨_, rfl⟩
  rw [hr] at HBT HMT HWO herr hval HK2 ⊢
  have hal : ownT t ≤ allT t := by unfold ownT allT; split; omega; split <;> omega
  have hbl : allT t ≤ 422212465065984 := by unfold allT; omega
  dsimp only at *
  clear hb2 hg2 hk2 hr HC2 HB1 HK1 HD1 HL1 HG1
  rw [HWO.out] at HBT
  rcases herr with rfl | rfl | rfl
  all_goals
    go_wp2_with fail
    refine Calls.mono HC3.out ?_
    rintro e W3 ⟨rfl, hb3⟩
    have HK3 := Lib.hid (HK2.out.past hb3)
    have HG3 := Lib.hid (grown_trans HG2.out (grown_past hb3 (some g)))
    clear HC3 hb3 HK2 HG2 p0 p1 p2 p3 p4 lp
    generalize ownT t = ow at *
    generalize allT t = al at *
    obtain ⟨k0, k1, k2, z0, z1, z2, hgw⟩ := HK3.out.cells
  · by_cases h1 : (ow : Int) = cn
    · have e1 : ((ow : Int) == cn) = true := by simpa using h1
      by_cases h2 : (al : Int) - ow = 0
      · have h3 : ¬ (al : Int) - ow > 0 := by omega
        have HE : Hid ((decide ((ow : Int) = cn) && decide ((al : Int) - ow = 0)) = true) := Lib.hid (by simp [h1, h2]; omega)
        go_wp2
        go_end0
        exact ⟨rfl, HK3.out.to (by rw [HBT.out, HE.out, HKN.out]; simp) (by rw [HMT.out]; simp), HG3.out⟩
      · have h3 : (al : Int) - ow > 0 := by omega
        have HE : Hid ((decide ((ow : Int) = cn) && decide ((al : Int) - ow = 0)) = false) := Lib.hid (by simp; omega)
        go_wp2
        go_end0
        exact ⟨rfl, (HK3.out.set0 true).to (by rw [HBT.out, HE.out, HKN.out]; simp) (by rw [HMT.out]; simp), grown_trans HG3.out (grown_set _ _ _ _)⟩
    · have e1 : ((ow : Int) == cn) = false := by simpa using h1
      have HE : Hid ((decide ((ow : Int) = cn) && decide ((al : Int) - ow = 0)) = false) := Lib.hid (by simp [h1])
      go_wp2
      go_end0
      exact ⟨rfl, (HK3.out.set0 true).to (by rw [HBT.out, HE.out, HKN.out]; simp) (by rw [HMT.out]; simp), grown_trans HG3.out (grown_set _ _ _ _)⟩
  · go_wp2
    go_end0
    exact ⟨rfl, HK3.out.to (by rw [HBT.out, HKN.out]; simp) (by rw [HMT.out]; simp), HG3.out⟩
  · go_wp2
    go_end0
    exact ⟨rfl, HK3.out.to (by rw [HBT.out, HKN.out]; simp) (by rw [HMT.out, HKN.out]; simp), HG3.out⟩
end
end Go.Proofs.YtlhpmlknmgocoaaGreat

/- The document's answer: what is noted of an attribute. -/
namespace Go.Proofs.YtlhpmlknmgocoaaGreat
set_option linter.unusedSimpArgs false
set_option linter.unusedVariables false
open Go.RowKit

/-- does an attribute hold what is not of its kind? -/
def clashP (kd fv iv : Int) (s : List UInt8) (nt : Bool) (n6 n7 : Nat) : Bool :=
  (!decide (kd = 1) && !decide (fv = 0)) || (!decide (kd = 2) && !decide (iv = 0)) || (!decide (kd = 3) && !s.isEmpty) || (!decide (kd = 4) && !nt) || (!decide (kd = 6) && decide (0 < n6)) || (!decide (kd = 7) && decide (0 < n7))
theorem badA_clash (a : Atr) : badA a = (clashP a.kind.toInt (a.f.toNat : Int) a.i.toInt a.s (noneT a.t) a.fl.length a.il.length || (!kindP a.kind || (decide (a.kind = 4) && badT a.t))) := by
  have hk : ∀ n : Int64, decide (a.kind = n) = decide (a.kind.toInt = n.toInt) := fun n => by rw [decide_eq_decide, ← Int64.toInt_inj]
  have h1 := hk 1; have h2 := hk 2; have h3 := hk 3; have h4 := hk 4; have h6 := hk 6; have h7 := hk 7
  unfold badA clashP
  rw [h1, h2, h3, h4, h6, h7, u32_zero, i64_zero']
  have l6 : decide (0 < a.fl.length) = !a.fl.isEmpty := by cases a.fl <;> simp
  have l7 : decide (0 < a.il.length) = !a.il.isEmpty := by cases a.il <;> simp
  rw [l6, l7]
  have z1 : (1 : Int64).toInt = 1 := rfl
  have z2 : (2 : Int64).toInt = 2 := rfl
  have z3 : (3 : Int64).toInt = 3 := rfl
  have z4 : (4 : Int64).toInt = 4 := rfl
  have z6 : (6 : Int64).toInt = 6 := rfl
  have z7 : (7 : Int64).toInt = 7 := rfl
  rw [z1, z2, z3, z4, z6, z7]
  generalize kindP a.kind = k0
  cases k0 <;> simp [Bool.or_assoc]
section
variable {g : Nat} {b m : Bool} {S : Nat → Prop} {us : List Value} {w : World}
set_option maxRecDepth 100000 in
set_option maxHeartbeats 6400000 in
theorem fattr_any {a : Atr} (hk : FgB w g b m) (hl : HL w S (datA a) us) (hS : ¬ S g) :
    Calls Tryz.prog 57 #[.pointer (some ⟨g, 0, none⟩), .agg us.toArray] w (FN w g (b || badA a) (m || manyA true a)) := by
  obtain ⟨A1, c1, A2, c2, A3, c3, A4, c4, A5, c5, A6, c6, rfl, ht, -, -, b1, b2, b3, b4, b5, b6⟩ := hl.att
  have hlt := hk.lt
  have HBA := Lib.hid (badA_clash a)
  have HMA : Hid (manyA true a = (longP a.name || (decide (4096 < a.s.length) || decide (4096 < a.fl.length) || decide (4096 < a.il.length)) || (decide (a.kind = 4) && manyT true a.t))) := Lib.hid (by simp [manyA, Bool.or_assoc])
  obtain ⟨an, ak, af, ai, as', at', afl, ail⟩ := a
  dsimp only at *
  clear hl
  obtain ⟨kd, hkd⟩ : ∃ kd, ak.toInt = kd := ⟨_, rfl⟩
  have HKD : Hid (∀ n : Int64, kd = n.toInt → ak = n) := Lib.hid (fun n h => Int64.toInt_inj.1 (hkd.trans h))
  have HND : Hid (∀ n : Int64, ¬ kd = n.toInt → ¬ ak = n) := Lib.hid (fun n h e => h (by rw [← hkd, e]))
  have HFV : Hid (((af.toNat : Int)) = (af.toNat : Int)) := Lib.hid rfl
  rw [hkd] at HBA ⊢
  obtain ⟨W1, hW1⟩ : ∃ W1, w.alloc (.cells #[.string ⟨an.toArray⟩, .int .i64 kd, .int .u32 (af.toNat : Int), .int .i64 ai.toInt, .string ⟨as'.toArray⟩, .int .i64 at'.ty.toInt, .slice A1 at'.dims.length c1, .slice A2 at'.f.length c2, .slice A3 at'.i.length c3, .slice A4 at'.b.length c4, .slice A5 afl.length c5, .slice A6 ail.length c6] 98) = W1 := ⟨_, rfl⟩
  have hb1 : Blk W1 w.heap.size 98 #[.string ⟨an.toArray⟩, .int .i64 kd, .int .u32 (af.toNat : Int), .int .i64 ai.toInt, .string ⟨as'.toArray⟩, .int .i64 at'.ty.toInt, .slice A1 at'.dims.length c1, .slice A2 at'.f.length c2, .slice A3 at'.i.length c3, .slice A4 at'.b.length c4, .slice A5 afl.length c5, .slice A6 ail.length c6] := by rw [← hW1]; exact Blk.new _ _ _
  have hg1 : w.grownBy W1 (some g) := by rw [← hW1]; exact grown_alloc _ _
  have hk1 : FgB W1 g b m := by rw [← hW1]; exact hk.alloc _
  have ht1 : HL W1 S (datT at') [.int .i64 at'.ty.toInt, .slice A1 at'.dims.length c1, .slice A2 at'.f.length c2, .slice A3 at'.i.length c3, .slice A4 at'.b.length c4] := by rw [← hW1]; exact ht.keep fun h => h.alloc _
  obtain ⟨p, hp⟩ : ∃ p, w.heap.size = p := ⟨_, rfl⟩
  have hgp : g < p := by omega
  have HC := Lib.hid (flong_any (s := an) hk1)
  rw [hp] at hb1
  have HB1 := Lib.hid hb1
  have HG1 := Lib.hid hg1
  have HT1 := Lib.hid ht1
  have HT0 := Lib.hid ht
  clear hkd hb1 hg1 hk1 ht1 ht hk
  generalize (af.toNat : Int) = fv at *
  generalize ai.toInt = iv at *
  generalize afl.length = n6 at *
  generalize ail.length = n7 at *
  obtain ⟨p0, p1, p2, p3, p4, p5, p6, p7, p8, p9, p10, p11, -, -, -, -, -, -, -, -, -, -, -, -, lp⟩ := blkc12 HB1.out
  go_enter Tryz.func57, Tryz.ntmps57
  go_upto_region 1 with fail
  try rw [hW1]
  try rw [hp]
  clear hW1 hp
  go_wp2_with fail
  refine Calls.mono HC.out ?_
  rintro e W2 ⟨rfl, hk2, hg2⟩
  have hb2 := HB1.out.grown hg2 (fun e => by injection e with e; omega)
  have HB2 := Lib.hid hb2
  have HG2 := Lib.hid (grown_trans HG1.out hg2)
  have HT2 := Lib.hid (HT1.out.rd hS hg2)
  have HK2 := Lib.hid hk2
  clear p0 p1 p2 p3 p4 p5 p6 p7 p8 p9 p10 p11 lp hk2 hg2 hb2 HC HB1 HG1 HT1 HFV
  obtain ⟨p0, p1, p2, p3, p4, p5, p6, p7, p8, p9, p10, p11, -, -, -, -, -, -, -, -, -, -, -, -, lp⟩ := blkc12 HB2.out
  have HE := Lib.hid (fempty_any HT2.out)
  obtain ⟨nt, hnt⟩ : ∃ x, noneT at' = x := ⟨_, rfl⟩
  rw [hnt] at HE HBA
  clear hnt
  go_upto_region 2 with fail
  go_cut [68] (fun s wx => s = .bool (clashP kd fv iv as' nt n6 n7) ∧ FgB wx g b (m || longP an) ∧ Blk wx p 98 #[.string ⟨an.toArray⟩, .int .i64 kd, .int .u32 fv, .int .i64 iv, .string ⟨as'.toArray⟩, .int .i64 at'.ty.toInt, .slice A1 at'.dims.length c1, .slice A2 at'.f.length c2, .slice A3 at'.i.length c3, .slice A4 at'.b.length c4, .slice A5 n6 c5, .slice A6 n7 c6] ∧ w.grownBy wx (some g))
  case first =>
    as_aux_lemma =>
      by_cases h1 : kd = 1
      · subst h1
        by_cases x2 : ¬ iv = 0
        · have y2 : (iv == 0) = false := by simpa using x2
          have X2 := Lib.hid x2
          clear x2
          go_wp2
          go_meet
          case rel => exact ⟨by simp [clashP, X2.out], HK2.out, HB2.out, HG2.out⟩
        have z2 := Classical.not_not.1 x2
        clear x2
        subst z2
        by_cases x3 : ¬ as' = []
        · have y3 : as'.isEmpty = false := by simpa using x3
          have X3 := Lib.hid y3
          clear x3
          go_wp2
          go_meet
          case rel => exact ⟨by simp [clashP, X3.out], HK2.out, HB2.out, HG2.out⟩
        have z3 := Classical.not_not.1 x3
        clear x3
        subst z3
        go_wp2_with fail
        refine Calls.mono (HE.out) ?_
        rintro e w5 ⟨rfl, hbel⟩
        obtain ⟨p0, p1, p2, p3, p4, p5, p6, p7, p8, p9, p10, p11, -, -, -, -, -, -, -, -, -, -, -, -, lp⟩ := blkc12 (HB2.out.below hbel HB2.out.lt)
        have HK5 := Lib.hid (HK2.out.past hbel)
        have HB5 := Lib.hid (HB2.out.below hbel HB2.out.lt)
        have HG5 := Lib.hid (grown_trans HG2.out (grown_past hbel (some g)))
        clear hbel
        cases nt
        · have HDUM : True := trivial
          go_wp2
          go_meet
          case rel => exact ⟨by simp [clashP], HK5.out, HB5.out, HG5.out⟩
        by_cases x6 : (n6 : Int) > 0
        · have X6 : Hid (0 < n6) := Lib.hid (by omega)
          go_wp2
          go_meet
          case rel => exact ⟨by simp [clashP, X6.out], HK5.out, HB5.out, HG5.out⟩
        obtain rfl : n6 = 0 := by omega
        clear x6
        by_cases x7 : (n7 : Int) > 0
        · have X7 : Hid (0 < n7) := Lib.hid (by omega)
          go_wp2
          go_meet
          case rel => exact ⟨by simp [clashP, X7.out], HK5.out, HB5.out, HG5.out⟩
        obtain rfl : n7 = 0 := by omega
        clear x7
        go_wp2
        go_meet
        case rel => exact ⟨by simp [clashP], HK5.out, HB5.out, HG5.out⟩
      have e1 : (kd == 1) = false := by simpa using h1
      have N1 := Lib.hid h1
      clear h1
      by_cases x1 : ¬ fv = 0
      · have y1 : (fv == 0) = false := by simpa using x1
        have X1 := Lib.hid x1
        clear x1
        go_wp2
        go_meet
        case rel => exact ⟨by simp [clashP, N1.out, X1.out], HK2.out, HB2.out, HG2.out⟩
      have z1 := Classical.not_not.1 x1
      clear x1
      subst z1
      by_cases h2 : kd = 2
      · subst h2
        by_cases x3 : ¬ as' = []
        · have y3 : as'.isEmpty = false := by simpa using x3
          have X3 := Lib.hid y3
          clear x3
          go_wp2
          go_meet
          case rel => exact ⟨by simp [clashP, N1.out, X3.out], HK2.out, HB2.out, HG2.out⟩
        have z3 := Classical.not_not.1 x3
        clear x3
        subst z3
        go_wp2_with fail
        refine Calls.mono (HE.out) ?_
        rintro e w5 ⟨rfl, hbel⟩
        obtain ⟨p0, p1, p2, p3, p4, p5, p6, p7, p8, p9, p10, p11, -, -, -, -, -, -, -, -, -, -, -, -, lp⟩ := blkc12 (HB2.out.below hbel HB2.out.lt)
        have HK5 := Lib.hid (HK2.out.past hbel)
        have HB5 := Lib.hid (HB2.out.below hbel HB2.out.lt)
        have HG5 := Lib.hid (grown_trans HG2.out (grown_past hbel (some g)))
        clear hbel
        cases nt
        · have HDUM : True := trivial
          go_wp2
          go_meet
          case rel => exact ⟨by simp [clashP, N1.out], HK5.out, HB5.out, HG5.out⟩
        by_cases x6 : (n6 : Int) > 0
        · have X6 : Hid (0 < n6) := Lib.hid (by omega)
          go_wp2
          go_meet
          case rel => exact ⟨by simp [clashP, N1.out, X6.out], HK5.out, HB5.out, HG5.out⟩
        obtain rfl : n6 = 0 := by omega
        clear x6
        by_cases x7 : (n7 : Int) > 0
        · have X7 : Hid (0 < n7) := Lib.hid (by omega)
          go_wp2
          go_meet
          case rel => exact ⟨by simp [clashP, N1.out, X7.out], HK5.out, HB5.out, HG5.out⟩
        obtain rfl : n7 = 0 := by omega
        clear x7
        go_wp2
        go_meet
        case rel => exact ⟨by simp [clashP, N1.out], HK5.out, HB5.out, HG5.out⟩
      have e2 : (kd == 2) = false := by simpa using h2
      have N2 := Lib.hid h2
      clear h2
      by_cases x2 : ¬ iv = 0
      · have y2 : (iv == 0) = false := by simpa using x2
        have X2 := Lib.hid x2
        clear x2
        go_wp2
        go_meet
        case rel => exact ⟨by simp [clashP, N1.out, N2.out, X2.out], HK2.out, HB2.out, HG2.out⟩
      have z2 := Classical.not_not.1 x2
      clear x2
      subst z2
      by_cases h3 : kd = 3
      · subst h3
        go_wp2_with fail
        refine Calls.mono (HE.out) ?_
        rintro e w5 ⟨rfl, hbel⟩
        obtain ⟨p0, p1, p2, p3, p4, p5, p6, p7, p8, p9, p10, p11, -, -, -, -, -, -, -, -, -, -, -, -, lp⟩ := blkc12 (HB2.out.below hbel HB2.out.lt)
        have HK5 := Lib.hid (HK2.out.past hbel)
        have HB5 := Lib.hid (HB2.out.below hbel HB2.out.lt)
        have HG5 := Lib.hid (grown_trans HG2.out (grown_past hbel (some g)))
        clear hbel
        cases nt
        · have HDUM : True := trivial
          go_wp2
          go_meet
          case rel => exact ⟨by simp [clashP, N1.out, N2.out], HK5.out, HB5.out, HG5.out⟩
        by_cases x6 : (n6 : Int) > 0
        · have X6 : Hid (0 < n6) := Lib.hid (by omega)
          go_wp2
          go_meet
          case rel => exact ⟨by simp [clashP, N1.out, N2.out, X6.out], HK5.out, HB5.out, HG5.out⟩
        obtain rfl : n6 = 0 := by omega
        clear x6
        by_cases x7 : (n7 : Int) > 0
        · have X7 : Hid (0 < n7) := Lib.hid (by omega)
          go_wp2
          go_meet
          case rel => exact ⟨by simp [clashP, N1.out, N2.out, X7.out], HK5.out, HB5.out, HG5.out⟩
        obtain rfl : n7 = 0 := by omega
        clear x7
        go_wp2
        go_meet
        case rel => exact ⟨by simp [clashP, N1.out, N2.out], HK5.out, HB5.out, HG5.out⟩
      have e3 : (kd == 3) = false := by simpa using h3
      have N3 := Lib.hid h3
      clear h3
      by_cases x3 : ¬ as' = []
      · have y3 : as'.isEmpty = false := by simpa using x3
        have X3 := Lib.hid y3
        clear x3
        go_wp2
        go_meet
        case rel => exact ⟨by simp [clashP, N1.out, N2.out, N3.out, X3.out], HK2.out, HB2.out, HG2.out⟩
      have z3 := Classical.not_not.1 x3
      clear x3
      subst z3
      by_cases h4 : kd = 4
      · subst h4
        by_cases x6 : (n6 : Int) > 0
        · have X6 : Hid (0 < n6) := Lib.hid (by omega)
          go_wp2
          go_meet
          case rel => exact ⟨by simp [clashP, N1.out, N2.out, N3.out, X6.out], HK2.out, HB2.out, HG2.out⟩
        obtain rfl : n6 = 0 := by omega
        clear x6
        by_cases x7 : (n7 : Int) > 0
        · have X7 : Hid (0 < n7) := Lib.hid (by omega)
          go_wp2
          go_meet
          case rel => exact ⟨by simp [clashP, N1.out, N2.out, N3.out, X7.out], HK2.out, HB2.out, HG2.out⟩
        obtain rfl : n7 = 0 := by omega
        clear x7
        go_wp2
        go_meet
        case rel => exact ⟨by simp [clashP, N1.out, N2.out, N3.out], HK2.out, HB2.out, HG2.out⟩
      have e4 : (kd == 4) = false := by simpa using h4
      have N4 := Lib.hid h4
      clear h4
      go_wp2_with fail
      refine Calls.mono (HE.out) ?_
      rintro e w5 ⟨rfl, hbel⟩
      obtain ⟨p0, p1, p2, p3, p4, p5, p6, p7, p8, p9, p10, p11, -, -, -, -, -, -, -, -, -, -, -, -, lp⟩ := blkc12 (HB2.out.below hbel HB2.out.lt)
      have HK5 := Lib.hid (HK2.out.past hbel)
      have HB5 := Lib.hid (HB2.out.below hbel HB2.out.lt)
      have HG5 := Lib.hid (grown_trans HG2.out (grown_past hbel (some g)))
      clear hbel
      cases nt
      · have HDUM : True := trivial
        go_wp2
        go_meet
        case rel => exact ⟨by simp [clashP, N1.out, N2.out, N3.out, N4.out], HK5.out, HB5.out, HG5.out⟩
      by_cases h6 : kd = 6
      · subst h6
        by_cases x7 : (n7 : Int) > 0
        · have X7 : Hid (0 < n7) := Lib.hid (by omega)
          go_wp2
          go_meet
          case rel => exact ⟨by simp [clashP, N1.out, N2.out, N3.out, N4.out, X7.out], HK5.out, HB5.out, HG5.out⟩
        obtain rfl : n7 = 0 := by omega
        clear x7
        go_wp2
        go_meet
        case rel => exact ⟨by simp [clashP, N1.out, N2.out, N3.out, N4.out], HK5.out, HB5.out, HG5.out⟩
      have e6 : (kd == 6) = false := by simpa using h6
      have N6 := Lib.hid h6
      clear h6
      by_cases x6 : (n6 : Int) > 0
      · have X6 : Hid (0 < n6) := Lib.hid (by omega)
        go_wp2
        go_meet
        case rel => exact ⟨by simp [clashP, N1.out, N2.out, N3.out, N4.out, N6.out, X6.out], HK5.out, HB5.out, HG5.out⟩
      obtain rfl : n6 = 0 := by omega
      clear x6
      by_cases h7 : kd = 7
      · subst h7
        go_wp2
        go_meet
        case rel => exact ⟨by simp [clashP, N1.out, N2.out, N3.out, N4.out, N6.out], HK5.out, HB5.out, HG5.out⟩
      have e7 : (kd == 7) = false := by simpa using h7
      have N7 := Lib.hid h7
      clear h7
      by_cases x7 : (n7 : Int) > 0
      · have X7 : Hid (0 < n7) := Lib.hid (by omega)
        go_wp2
        go_meet
        case rel => exact ⟨by simp [clashP, N1.out, N2.out, N3.out, N4.out, N6.out, N7.out, X7.out], HK5.out, HB5.out, HG5.out⟩
      obtain rfl : n7 = 0 := by omega
      clear x7
      go_wp2
      go_meet
      case rel => exact ⟨by simp [clashP, N1.out, N2.out, N3.out, N4.out, N6.out, N7.out], HK5.out, HB5.out, HG5.out⟩
  case rest =>
    obtain ⟨rfl, hk3, hb3, hg3⟩ := hcut
    obtain ⟨c, hc⟩ : ∃ c, clashP kd fv iv as' nt n6 n7 = c := ⟨_, rfl⟩
    rw [hc] at HBA ⊢
    obtain ⟨W3, hW⟩ : ∃ W, W = wc := ⟨_, rfl⟩
    subst hW
    have HT3 := Lib.hid (HT0.out.rd hS hg3)
    have HK3 := Lib.hid hk3
    have HB3 := Lib.hid hb3
    have HG3 := Lib.hid hg3
    clear p0 p1 p2 p3 p4 p5 p6 p7 p8 p9 p10 p11 lp hk3 hb3 hg3 hc HK2 HB2 HG2 HT2 HE
    obtain ⟨p0, p1, p2, p3, p4, p5, p6, p7, p8, p9, p10, p11, -, -, -, -, -, -, -, -, -, -, -, -, lp⟩ := blkc12 HB3.out
    obtain ⟨k0, k1, k2, z0, z1, z2, hgw⟩ := HK3.out.cells
    go_upto_if 68 with fail
    go_cut [] (fun wx => FgB wx g (b || c) (m || longP an) ∧ Blk wx p 98 #[.string ⟨an.toArray⟩, .int .i64 kd, .int .u32 fv, .int .i64 iv, .string ⟨as'.toArray⟩, .int .i64 at'.ty.toInt, .slice A1 at'.dims.length c1, .slice A2 at'.f.length c2, .slice A3 at'.i.length c3, .slice A4 at'.b.length c4, .slice A5 n6 c5, .slice A6 n7 c6] ∧ w.grownBy wx (some g))
    case first =>
      cases c
      · go_wp2
        go_meet
        case rel => exact ⟨HK3.out.to (by simp) rfl, HB3.out, HG3.out⟩
      · go_wp2
        go_meet
        case rel => exact ⟨(HK3.out.set0 true).to (by simp) rfl, HB3.out.far (p := ⟨g, 0, none⟩) (by simp; omega) _, grown_trans HG3.out (grown_set _ _ _ _)⟩
    case rest =>
      obtain ⟨hk4, hb4, hg4⟩ := hcut
      obtain ⟨W4, hW⟩ : ∃ W, W = wc := ⟨_, rfl⟩
      subst hW
      have HT4 := Lib.hid (HT0.out.rd hS hg4)
      have HK4 := Lib.hid hk4
      have HB4 := Lib.hid hb4
      have HG4 := Lib.hid hg4
      clear p0 p1 p2 p3 p4 p5 p6 p7 p8 p9 p10 p11 lp k0 k1 k2 z0 z1 z2 hgw hk4 hb4 hg4 HK3 HB3 HG3 HT3
      obtain ⟨p0, p1, p2, p3, p4, p5, p6, p7, p8, p9, p10, p11, -, -, -, -, -, -, -, -, -, -, -, -, lp⟩ := blkc12 HB4.out
      obtain ⟨k0, k1, k2, z0, z1, z2, hgw⟩ := HK4.out.cells
      obtain ⟨q, hq⟩ : ∃ q, (decide (4096 < as'.length) || decide (4096 < n6) || decide (4096 < n7)) = q := ⟨_, rfl⟩
      have HQ := Lib.hid hq
      rw [hq] at HMA
      clear hq
      go_upto_region 4 with fail
      go_cut [87] (fun s wx => s = .bool q ∧ wx = W4)
      case first =>
        as_aux_lemma =>
          by_cases y1 : (as'.length : Int) > 4096
          · go_wp2
            go_meet
            case rel => exact ⟨by rw [← HQ.out]; simp; omega, rfl⟩
          by_cases y2 : (n6 : Int) > 4096
          · go_wp2
            go_meet
            case rel => exact ⟨by rw [← HQ.out]; simp; omega, rfl⟩
          by_cases y3 : (n7 : Int) > 4096
          · go_wp2
            go_meet
            case rel => exact ⟨by rw [← HQ.out]; simp; omega, rfl⟩
          · go_wp2
            go_meet
            case rel => exact ⟨by rw [← HQ.out]; simp; omega, rfl⟩
      case rest =>
        obtain ⟨rfl, hw⟩ := hcut
        subst hw
        go_upto_if 87 with fail
        go_cut [] (fun wx => FgB wx g (b || c) (m || longP an || q) ∧ Blk wx p 98 #[.string ⟨an.toArray⟩, .int .i64 kd, .int .u32 fv, .int .i64 iv, .string ⟨as'.toArray⟩, .int .i64 at'.ty.toInt, .slice A1 at'.dims.length c1, .slice A2 at'.f.length c2, .slice A3 at'.i.length c3, .slice A4 at'.b.length c4, .slice A5 n6 c5, .slice A6 n7 c6] ∧ w.grownBy wx (some g))
        case first =>
          cases q
          · go_wp2
            go_meet
            case rel => exact ⟨HK4.out.to rfl (by simp), HB4.out, HG4.out⟩
          · go_wp2
            go_meet
            case rel => exact ⟨(HK4.out.set2 true).to rfl (by simp), HB4.out.far (p := ⟨g, 2, none⟩) (by simp; omega) _, grown_trans HG4.out (grown_set _ _ _ _)⟩
        case rest =>
          obtain ⟨hk5, hb5, hg5⟩ := hcut
          obtain ⟨W5, hW⟩ : ∃ W, W = wc := ⟨_, rfl⟩
          subst hW
          have HT5 := Lib.hid (HT0.out.rd hS hg5)
          have HK5 := Lib.hid hk5
          have HG5 := Lib.hid hg5
          clear p0 p1 p2 p3 p4 p5 p6 p7 p8 p9 p10 p11 lp k0 k1 k2 z0 z1 z2 hgw hk5 hg5 HK4 HB4 HG4 HT4 HQ
          obtain ⟨p0, p1, p2, p3, p4, p5, p6, p7, p8, p9, p10, p11, -, -, -, -, -, -, -, -, -, -, -, -, lp⟩ := blkc12 hb5
          clear hb5
          obtain ⟨k0, k1, k2, z0, z1, z2, hgw⟩ := HK5.out.cells
          by_cases h1 : kd = 1
          · subst h1
            have e := HKD.out 1 rfl
            subst e
            go_wp2
            go_end0
            exact ⟨rfl, HK5.out.to (by rw [HBA.out]; simp [kindP]) (by rw [HMA.out]; simp [Bool.or_assoc]), HG5.out⟩
          have e1 : (kd == 1) = false := by simpa using h1
          have N1 := Lib.hid (HND.out 1 h1)
          clear h1
          by_cases h2 : kd = 2
          · subst h2
            have e := HKD.out 2 rfl
            subst e
            go_wp2
            go_end0
            exact ⟨rfl, HK5.out.to (by rw [HBA.out]; simp [kindP]) (by rw [HMA.out]; simp [Bool.or_assoc]), HG5.out⟩
          have e2 : (kd == 2) = false := by simpa using h2
          have N2 := Lib.hid (HND.out 2 h2)
          clear h2
          by_cases h3 : kd = 3
          · subst h3
            have e := HKD.out 3 rfl
            subst e
            go_wp2
            go_end0
            exact ⟨rfl, HK5.out.to (by rw [HBA.out]; simp [kindP]) (by rw [HMA.out]; simp [Bool.or_assoc]), HG5.out⟩
          have e3 : (kd == 3) = false := by simpa using h3
          have N3 := Lib.hid (HND.out 3 h3)
          clear h3
          by_cases h6 : kd = 6
          · subst h6
            have e := HKD.out 6 rfl
            subst e
            go_wp2
            go_end0
            exact ⟨rfl, HK5.out.to (by rw [HBA.out]; simp [kindP]) (by rw [HMA.out]; simp [Bool.or_assoc]), HG5.out⟩
          have e6 : (kd == 6) = false := by simpa using h6
          have N6 := Lib.hid (HND.out 6 h6)
          clear h6
          by_cases h7 : kd = 7
          · subst h7
            have e := HKD.out 7 rfl
            subst e
            go_wp2
            go_end0
            exact ⟨rfl, HK5.out.to (by rw [HBA.out]; simp [kindP]) (by rw [HMA.out]; simp [Bool.or_assoc]), HG5.out⟩
          have e7 : (kd == 7) = false := by simpa using h7
          have N7 := Lib.hid (HND.out 7 h7)
          clear h7
          by_cases h4 : kd = 4
          · subst h4
            have e := HKD.out 4 rfl
            subst e
            go_wp2_with fail
            refine Calls.mono (fwrong_any HK5.out HT5.out) ?_
            rintro e w6 ⟨rfl, hk6, hg6⟩
            have HK6 := Lib.hid hk6
            have HG6 := Lib.hid (grown_trans HG5.out hg6)
            clear hk6 hg6 p0 p1 p2 p3 p4 p5 p6 p7 p8 p9 p10 p11 lp k0 k1 k2 z0 z1 z2 hgw
            go_wp2
            go_end0
            exact ⟨rfl, HK6.out.to (by rw [HBA.out]; simp [kindP, Bool.or_assoc]) (by rw [HMA.out]; simp [Bool.or_assoc]), HG6.out⟩
          have e4 : (kd == 4) = false := by simpa using h4
          have N4 := Lib.hid (HND.out 4 h4)
          clear h4
          go_wp2
          go_end0
          have HKP : kindP ak = false := by simp [kindP, N1.out, N2.out, N3.out, N4.out, N6.out, N7.out]
          have HD4 : decide (ak = 4) = false := by simpa using N4.out
          exact ⟨rfl, (HK5.out.set0 true).to (by rw [HBA.out, HKP]; simp) (by rw [HMA.out, HD4]; simp [Bool.or_assoc]), grown_trans HG5.out (grown_set _ _ _ _)⟩
end
end Go.Proofs.YtlhpmlknmgocoaaGreat

/- The document's answer: what is noted of a node, of values. -/
namespace Go.Proofs.YtlhpmlknmgocoaaGreat
set_option linter.unusedSimpArgs false
set_option linter.unusedVariables false
open Go.RowKit

/-- behind k rounds of a loop that notes -/
def FLrel {α : Type} (pb pm : α → Bool) (l : List α) (w : World) (g : Nat) (b m : Bool) (i : Value) (wr : World) : Prop :=
  ∃ k : Nat, k ≤ l.length ∧ i = .int .i64 (k : Int) ∧ FgB wr g (b || (l.take k).any pb) (m || (l.take k).any pm) ∧ w.grownBy wr (some g)
theorem FLrel.start {α : Type} {pb pm : α → Bool} {l : List α} {w wr : World} {g : Nat} {b m : Bool} (h : FgB wr g b m) (hg : w.grownBy wr (some g)) : FLrel pb pm l w g b m (.int .i64 0) wr :=
  ⟨0, Nat.zero_le _, rfl, h.to (by simp) (by simp), hg⟩
def never {α : Type} (_ : α) : Bool := false
theorem any_never {α : Type} (l : List α) : l.any never = false := by
  induction l with
  | nil => rfl
  | cons a l ih => simp [never, ih]
section
variable {g : Nat} {b m : Bool} {S : Nat → Prop} {us : List Value} {w : World}
set_option maxRecDepth 100000 in
set_option maxHeartbeats 1600000 in
theorem fnode_any {n : Nod} (hk : FgB w g b m) (hl : HL w S (datN n) us) (hS : ¬ S g) :
    Calls Tryz.prog 32 #[.pointer (some ⟨g, 0, none⟩), .agg us.toArray] w (FN w g (b || badN n) (m || manyN true n)) := by
  obtain ⟨A1, c1, A2, c2, A3, c3, rfl, hi, ho, ha, b1, b2, b3⟩ := hl.nod
  have hlt := hk.lt
  obtain ⟨op, nm, ins, outs, attrs⟩ := n
  dsimp only at *
  clear hl
  obtain ⟨W1, hW1⟩ : ∃ W1, w.alloc (.cells #[.string ⟨op.toArray⟩, .string ⟨nm.toArray⟩, .slice A1 ins.length c1, .slice A2 outs.length c2, .slice A3 attrs.length c3] 48) = W1 := ⟨_, rfl⟩
  obtain ⟨p, hp⟩ : ∃ p, w.heap.size = p := ⟨_, rfl⟩
  have hgp : g < p := by omega
  have hb1 : Blk W1 p 48 #[.string ⟨op.toArray⟩, .string ⟨nm.toArray⟩, .slice A1 ins.length c1, .slice A2 outs.length c2, .slice A3 attrs.length c3] := by rw [← hW1, ← hp]; exact Blk.new _ _ _
  have hg1 : w.grownBy W1 (some g) := by rw [← hW1]; exact grown_alloc _ _
  have hk1 : FgB W1 g b m := by rw [← hW1]; exact hk.alloc _
  have HC := Lib.hid (flong_any (s := op) hk1)
  have HB1 := Lib.hid hb1
  have HG1 := Lib.hid hg1
  have HI := Lib.hid hi
  have HO := Lib.hid ho
  have HA := Lib.hid ha
  clear hb1 hg1 hk1 hk hi ho ha
  obtain ⟨p0, p1, p2, p3, p4, -, -, -, -, -, lp⟩ := blkc5 HB1.out
  go_enter Tryz.func32, Tryz.ntmps32
  go_upto_region 1 with fail
  try rw [hW1]
  try rw [hp]
  clear hW1 hp
  go_wp2_with fail
  refine Calls.mono HC.out ?_
  rintro e W2 ⟨rfl, hk2, hg2⟩
  have HB2 := Lib.hid (HB1.out.grown hg2 (fun e => by injection e with e; omega))
  have HG2 := Lib.hid (grown_trans HG1.out hg2)
  have HC2 := Lib.hid (flong_any (s := nm) hk2)
  clear p0 p1 p2 p3 p4 lp hk2 hg2 HC HB1 HG1
  obtain ⟨p0, p1, p2, p3, p4, -, -, -, -, -, lp⟩ := blkc5 HB2.out
  go_wp2_with fail
  refine Calls.mono HC2.out ?_
  rintro e W3 ⟨rfl, hk3, hg3⟩
  have HB3 := Lib.hid (HB2.out.grown hg3 (fun e => by injection e with e; omega))
  have HG3 := Lib.hid (grown_trans HG2.out hg3)
  clear p0 p1 p2 p3 p4 lp HC2 HB2 HG2 hg3
  obtain ⟨m3, hm3⟩ : ∃ q, ((m || longP op) || longP nm) = q := ⟨_, rfl⟩
  rw [hm3] at hk3
  have HM3 := Lib.hid hm3
  have HK3 := Lib.hid hk3
  clear hm3 hk3
  obtain ⟨p0, p1, p2, p3, p4, -, -, -, -, -, lp⟩ := blkc5 HB3.out
  obtain ⟨k0, k1, k2, z0, z1, z2, hgw⟩ := HK3.out.cells
  go_upto_region 3 with fail
  go_cut [17] (fun s wx => s = .bool op.isEmpty ∧ wx = W3)
  case first =>
    by_cases h0 : op = []
    · subst h0
      go_wp2
      go_meet
      case rel => exact ⟨by simp, rfl⟩
    · have e0 : op.isEmpty = false := by simpa using h0
      go_wp2
      go_meet
      case rel => exact ⟨by simp [e0], rfl⟩
  case rest =>
    obtain ⟨rfl, hw⟩ := hcut
    subst hw
    obtain ⟨oe, hoe⟩ : ∃ x, op.isEmpty = x := ⟨_, rfl⟩
    rw [hoe]
    have HOE := Lib.hid hoe
    clear hoe
    go_upto_if 17 with fail
    go_cut [] (fun wx => FgB wx g (b || oe) m3 ∧ Blk wx p 48 #[.string ⟨op.toArray⟩, .string ⟨nm.toArray⟩, .slice A1 ins.length c1, .slice A2 outs.length c2, .slice A3 attrs.length c3] ∧ w.grownBy wx (some g))
    case first =>
      cases oe
      · go_wp2
        go_meet
        case rel => exact ⟨HK3.out.to (by simp) rfl, HB3.out, HG3.out⟩
      · go_wp2
        go_meet
        case rel => exact ⟨(HK3.out.set0 true).to (by simp) rfl, HB3.out.far (p := ⟨g, 0, none⟩) (by simp; omega) _, grown_trans HG3.out (grown_set _ _ _ _)⟩
    case rest =>
      obtain ⟨hk4, hb4, hg4⟩ := hcut
      obtain ⟨W4, hW⟩ : ∃ W, W = wc := ⟨_, rfl⟩
      subst hW
      have HK4 := Lib.hid hk4
      have HB4 := Lib.hid hb4
      have HG4 := Lib.hid hg4
      clear p0 p1 p2 p3 p4 lp k0 k1 k2 z0 z1 z2 hgw hk4 hb4 hg4 HK3 HB3 HG3
      obtain ⟨p0, p1, p2, p3, p4, -, -, -, -, -, lp⟩ := blkc5 HB4.out
      obtain ⟨k0, k1, k2, z0, z1, z2, hgw⟩ := HK4.out.cells
      obtain ⟨q, hq⟩ : ∃ q, (decide (64 < ins.length) || decide (64 < outs.length) || decide (64 < attrs.length)) = q := ⟨_, rfl⟩
      have HQ := Lib.hid hq
      have HBN : Hid ((b || badN ⟨op, nm, ins, outs, attrs⟩) = ((b || oe) || attrs.any badA)) := Lib.hid (by rw [← HOE.out]; simp [badN, Bool.or_assoc])
      have HMN : Hid ((m || manyN true ⟨op, nm, ins, outs, attrs⟩) = (((((m3 || q) || ins.any longP) || outs.any longP)) || attrs.any (manyA true))) := Lib.hid (by
        rw [← HM3.out, ← hq]; simp only [manyN]
        generalize longP op = x1; generalize longP nm = x2; generalize ins.any longP = x3; generalize outs.any longP = x4
        generalize decide (64 < ins.length) = x5; generalize decide (64 < outs.length) = x6; generalize decide (64 < attrs.length) = x7; generalize attrs.any (manyA true) = x8
        cases m <;> cases x1 <;> cases x2 <;> cases x3 <;> cases x4 <;> cases x5 <;> cases x6 <;> cases x7 <;> cases x8 <;> rfl)
      clear hq HM3
      go_upto_region 5 with fail
      go_cut [36] (fun s wx => s = .bool q ∧ wx = W4)
      case first =>
        as_aux_lemma =>
          by_cases y1 : (ins.length : Int) > 64
          · go_wp2
            go_meet
            case rel => exact ⟨by rw [← HQ.out]; simp; omega, rfl⟩
          by_cases y2 : (outs.length : Int) > 64
          · go_wp2
            go_meet
            case rel => exact ⟨by rw [← HQ.out]; simp; omega, rfl⟩
          by_cases y3 : (attrs.length : Int) > 64
          · go_wp2
            go_meet
            case rel => exact ⟨by rw [← HQ.out]; simp; omega, rfl⟩
          · go_wp2
            go_meet
            case rel => exact ⟨by rw [← HQ.out]; simp; omega, rfl⟩
      case rest =>
        obtain ⟨rfl, hw⟩ := hcut
        subst hw
        go_upto_if 36 with fail
        go_cut [] (fun wx => FgB wx g (b || oe) (m3 || q) ∧ Blk wx p 48 #[.string ⟨op.toArray⟩, .string ⟨nm.toArray⟩, .slice A1 ins.length c1, .slice A2 outs.length c2, .slice A3 attrs.length c3] ∧ w.grownBy wx (some g))
        case first =>
          cases q
          · go_wp2
            go_meet
            case rel => exact ⟨HK4.out.to rfl (by simp), HB4.out, HG4.out⟩
          · go_wp2
            go_meet
            case rel => exact ⟨(HK4.out.set2 true).to rfl (by simp), HB4.out.far (p := ⟨g, 2, none⟩) (by simp; omega) _, grown_trans HG4.out (grown_set _ _ _ _)⟩
        case rest =>
          obtain ⟨hk5, hb5, hg5⟩ := hcut
          obtain ⟨W5, hW⟩ : ∃ W, W = wc := ⟨_, rfl⟩
          subst hW
          have HBW5 := Lib.hid hb5
          have HKW5 := Lib.hid hk5
          have HGW5 := Lib.hid hg5
          clear p0 p1 p2 p3 p4 lp k0 k1 k2 z0 z1 z2 hgw hk5 hg5 hb5 HK4 HB4 HG4 HQ
          generalize (b || oe) = b5 at *
          obtain ⟨m5, hm5⟩ : ∃ x, (m3 || q) = x := ⟨_, rfl⟩
          rw [hm5] at HMN HKW5
          clear hm5
          obtain ⟨p0, p1, p2, p3, p4, -, -, -, -, -, lp⟩ := blkc5 HBW5.out
          go_wp2
          go_loopw [4] (fun i wr => FLrel never longP ins W5 g b5 m5 i wr) (fun i _ => ins.length - (intOf i).toNat)
          case atStart => exact FLrel.start HKW5.out (grown_same _ _)
          case round =>
            obtain ⟨k, hk', rfl, hkr, hgr⟩ := hrel
            have HB := Lib.hid (HBW5.out.grown hgr (fun e => by injection e with e; omega))
            clear p0 p1 p2 p3 p4 lp
            obtain ⟨p0, p1, p2, p3, p4, -, -, -, -, -, lp⟩ := blkc5 HB.out
            have HGR := Lib.hid hgr
            by_cases hlt' : k < ins.length
            · obtain ⟨bx, off, rfl, -, hc0⟩ := (HI.out.rd hS (grown_trans HGW5.out hgr)).str_at hlt'
              have HT := Lib.hid (long_take hlt')
              generalize ins[k] = a at *
              have HC := Lib.hid (flong_any (s := a) hkr)
              clear hkr hgr
              go_wp2_with fail
              refine Calls.mono HC.out ?_
              rintro e' w7 ⟨rfl, hk7, hg7⟩
              have HK7 := Lib.hid hk7
              clear hk7
              go_wp2
              go_roundw
              case rel => exact ⟨k + 1, hlt', by go_num, HK7.out.to (by rw [any_never, any_never]) (by rw [HT.out, Bool.or_assoc]), grown_trans HGR.out hg7⟩
              case measure => simp [intOf]; omega
            · have hke : k = ins.length := by omega
              subst hke
              rw [List.take_length] at hkr
              obtain ⟨W6, hW⟩ : ∃ W, W = wr := ⟨_, rfl⟩
              subst hW
              have HKW6 := Lib.hid (hkr.to (show (b5 || ins.any never) = b5 by rw [any_never, Bool.or_false]) rfl)
              have HBW6 := HB
              have HGW6 := Lib.hid (grown_trans HGW5.out HGR.out)
              clear hkr hgr HB HGR
              obtain ⟨m6, hm6⟩ : ∃ x, (m5 || ins.any longP) = x := ⟨_, rfl⟩
              rw [hm6] at HMN HKW6
              clear hm6
              go_wp2
              go_loopw [5] (fun i wr => FLrel never longP outs W6 g b5 m6 i wr) (fun i _ => outs.length - (intOf i).toNat)
              case atStart => exact FLrel.start HKW6.out (grown_same _ _)
              case round =>
                obtain ⟨k, hk', rfl, hkr, hgr⟩ := hrel
                have HB := Lib.hid (HBW6.out.grown hgr (fun e => by injection e with e; omega))
                clear p0 p1 p2 p3 p4 lp
                obtain ⟨p0, p1, p2, p3, p4, -, -, -, -, -, lp⟩ := blkc5 HB.out
                have HGR := Lib.hid hgr
                by_cases hlt' : k < outs.length
                · obtain ⟨bx, off, rfl, -, hc0⟩ := (HO.out.rd hS (grown_trans HGW6.out hgr)).str_at hlt'
                  have HT := Lib.hid (long_take hlt')
                  generalize outs[k] = a at *
                  have HC := Lib.hid (flong_any (s := a) hkr)
                  clear hkr hgr
                  go_wp2_with fail
                  refine Calls.mono HC.out ?_
                  rintro e' w7 ⟨rfl, hk7, hg7⟩
                  have HK7 := Lib.hid hk7
                  clear hk7
                  go_wp2
                  go_roundw
                  case rel => exact ⟨k + 1, hlt', by go_num, HK7.out.to (by rw [any_never, any_never]) (by rw [HT.out, Bool.or_assoc]), grown_trans HGR.out hg7⟩
                  case measure => simp [intOf]; omega
                · have hke : k = outs.length := by omega
                  subst hke
                  rw [List.take_length] at hkr
                  obtain ⟨W7, hW⟩ : ∃ W, W = wr := ⟨_, rfl⟩
                  subst hW
                  have HKW7 := Lib.hid (hkr.to (show (b5 || outs.any never) = b5 by rw [any_never, Bool.or_false]) rfl)
                  have HBW7 := HB
                  have HGW7 := Lib.hid (grown_trans HGW6.out HGR.out)
                  clear hkr hgr HB HGR
                  obtain ⟨m7, hm7⟩ : ∃ x, (m6 || outs.any longP) = x := ⟨_, rfl⟩
                  rw [hm7] at HMN HKW7
                  clear hm7
                  go_wp2
                  go_loopw [6] (fun i wr => FLrel badA (manyA true) attrs W7 g b5 m7 i wr) (fun i _ => attrs.length - (intOf i).toNat)
                  case atStart => exact FLrel.start HKW7.out (grown_same _ _)
                  case round =>
                    obtain ⟨k, hk', rfl, hkr, hgr⟩ := hrel
                    have HB := Lib.hid (HBW7.out.grown hgr (fun e => by injection e with e; omega))
                    clear p0 p1 p2 p3 p4 lp
                    obtain ⟨p0, p1, p2, p3, p4, -, -, -, -, -, lp⟩ := blkc5 HB.out
                    have HGR := Lib.hid hgr
                    by_cases hlt' : k < attrs.length
                    · obtain ⟨bx, off, D1, d1, D2, d2, D3, d3, D4, d4, D5, d5, D6, d6, rfl, hla, a0, a1, a2, a3, a4, a5, a6, a7, a8, a9, a10, a11⟩ := (HA.out.rd hS (grown_trans HGW7.out hgr)).att_at hlt'
                      have HT1 := Lib.hid (any_take1 badA hlt')
                      have HT2 := Lib.hid (any_take1 (manyA true) hlt')
                      generalize attrs[k] = a at *
                      have HC := Lib.hid (fattr_any hkr hla hS)
                      clear hkr hgr hla
                      go_wp2_with fail
                      refine Calls.mono HC.out ?_
                      rintro e' w7 ⟨rfl, hk7, hg7⟩
                      have HK7 := Lib.hid hk7
                      clear hk7
                      go_wp2
                      go_roundw
                      case rel => exact ⟨k + 1, hlt', by go_num, HK7.out.to (by rw [HT1.out, Bool.or_assoc]) (by rw [HT2.out, Bool.or_assoc]), grown_trans HGR.out hg7⟩
                      case measure => simp [intOf]; omega
                    · have hke : k = attrs.length := by omega
                      subst hke
                      rw [List.take_length] at hkr
                      have HKR := Lib.hid hkr
                      clear hkr hgr
                      go_wp2
                      go_end0
                      exact ⟨rfl, HKR.out.to HBN.out.symm HMN.out.symm, grown_trans HGW7.out HGR.out⟩
theorem Held.va_at {w : World} {S : Nat → Prop} {A : Option Addr} {m c : Nat} {xs : List Va} (h : Held w S (.row 3 (xs.flatMap datV)) (.slice A m c)) {k : Nat} (hk : k < xs.length) :
    ∃ b off A1 c1, A = some ⟨b, off, none⟩ ∧ S b ∧ Held w S (datI xs[k].dims) (.slice A1 xs[k].dims.length c1) ∧ w.cell? ⟨b, off + k * 3, none⟩ = some (.string ⟨xs[k].name.toArray⟩) ∧ w.cell? ⟨b, off + k * 3 + 1, none⟩ = some (.int .i64 xs[k].ty.toInt) ∧
      w.cell? ⟨b, off + k * 3 + 2, none⟩ = some (.slice A1 xs[k].dims.length c1) := by
  obtain ⟨b, off, us, hA, hs, hl, hc⟩ := Held.rowAt (f := datV) (n := 3) (fun _ => rfl) (by omega) h hk
  obtain ⟨A1, c1, rfl, hd, -⟩ := hl.val
  exact ⟨b, off, A1, c1, hA, hs, hd, hc 0 _ rfl, hc 1 _ rfl, hc 2 _ rfl⟩
set_option maxRecDepth 100000 in
set_option maxHeartbeats 1600000 in
theorem fvalues_any {l : List Va} {v : Value} (hk : FgB w g b m) (hv : Held w S (.row 3 (l.flatMap datV)) v) (hS : ¬ S g) :
    Calls Tryz.prog 34 #[.pointer (some ⟨g, 0, none⟩), v] w (FN w g (b || l.any badV) ((m || decide (64 < l.length)) || l.any manyV)) := by
  obtain ⟨A, c, rfl, -, -, b1, -⟩ := Held.rows (f := datV) (n := 3) (fun _ => rfl) (by omega) hv
  obtain ⟨k0, k1, k2, z0, z1, z2, hgw⟩ := hk.cells
  have HK := Lib.hid hk
  have HV := Lib.hid hv
  clear hk hv
  go_enter Tryz.func34, Tryz.ntmps34
  go_upto_if 7 with fail
  go_cut [] (fun wx => FgB wx g b (m || decide (64 < l.length)) ∧ w.grownBy wx (some g))
  case first =>
    by_cases h0 : (l.length : Int) > 64
    · have HD : Hid (decide (64 < l.length) = true) := Lib.hid (by simp; omega)
      go_wp2
      go_meet
      case rel => exact ⟨(HK.out.set2 true).to rfl (by rw [HD.out]; simp), grown_set _ _ _ _⟩
    · have HD : Hid (decide (64 < l.length) = false) := Lib.hid (by simp; omega)
      go_wp2
      go_meet
      case rel => exact ⟨HK.out.to rfl (by rw [HD.out]; simp), grown_same _ _⟩
  case rest =>
    obtain ⟨hk4, hg4⟩ := hcut
    obtain ⟨W4, hW⟩ : ∃ W, W = wc := ⟨_, rfl⟩
    subst hW
    have HK4 := Lib.hid hk4
    have HG4 := Lib.hid hg4
    clear k0 k1 k2 z0 z1 z2 hgw hk4 hg4 HK
    generalize (m || decide (64 < l.length)) = m4 at *
    go_wp2
    go_loopw [4] (fun i wr => FLrel badV manyV l W4 g b m4 i wr) (fun i _ => l.length - (intOf i).toNat)
    case atStart => exact FLrel.start HK4.out (grown_same _ _)
    case round =>
      obtain ⟨k, hk', rfl, hkr, hgr⟩ := hrel
      have HGR := Lib.hid hgr
      by_cases hlt' : k < l.length
      · obtain ⟨bx, off, D1, d1, rfl, hsb, hdm, a0, a1, a2⟩ := (HV.out.rd hS (grown_trans HG4.out hgr)).va_at hlt'
        have hne : ∀ x : Nat, ¬ (some (Addr.block ⟨bx, x, none⟩) = some g) := fun x e => hS (by injection e with e; exact e ▸ hsb)
        have HT1 := Lib.hid (any_take1 badV hlt')
        have HT2 := Lib.hid (any_take1 manyV hlt')
        generalize l[k] = x at *
        have HV1 : Hid (badV x = (decide ((cnt x.dims).2 = 1) || !knownP x.ty)) := Lib.hid rfl
        have HV2 : Hid (manyV x = (longP x.name || decide ((cnt x.dims).2 = 8))) := Lib.hid rfl
        obtain ⟨b7, hb7e⟩ : ∃ x, (b || (l.take k).any badV) = x := ⟨_, rfl⟩
        obtain ⟨m7, hm7e⟩ : ∃ x, (m4 || (l.take k).any manyV) = x := ⟨_, rfl⟩
        rw [hb7e, hm7e] at hkr
        have HB7E := Lib.hid hb7e
        have HM7E := Lib.hid hm7e
        clear hb7e hm7e
        have HC := Lib.hid (flong_any (s := x.name) hkr)
        have HDM := Lib.hid hdm
        have HNE := Lib.hid hne
        have HKN := Lib.hid (knownP_int x.ty)
        clear hkr hgr hdm hne
        generalize x.ty.toInt = ti at *
        go_wp2_with fail
        refine Calls.mono HC.out ?_
        rintro e' w7 ⟨rfl, hk7, hg7⟩
        have A1' := hg7.cell a1 (HNE.out (off + k * 3 + 1))
        have A2' := hg7.cell a2 (HNE.out (off + k * 3 + 2))
        have HD7 := Lib.hid (HDM.out.rd hS hg7)
        have HK7 := Lib.hid hk7
        have HG7 := Lib.hid (grown_trans HGR.out hg7)
        clear hk7 hg7 a0 a1 a2 HC HDM
        obtain ⟨kn, hkn⟩ : ∃ x, knownI ti = x := ⟨_, rfl⟩
        rw [hkn] at HKN
        go_wp2_with fail
        refine Calls.mono (rknown_any _ _) ?_
        rintro e' w' ⟨rfl, hw'⟩
        subst w'
        rw [hkn]
        clear hkn
        obtain ⟨k0, k1, k2, z0, z1, z2, hgw⟩ := HK7.out.cells
        cases kn
        · have hg8 := grown_set w7 g 0 (.bool true)
          have A2'' := hg8.cell A2' (HNE.out (off + k * 3 + 2))
          have HC8 := Lib.hid (fdims_any (HK7.out.set0 true) (HD7.out.rd hS hg8))
          have HG8 := Lib.hid (grown_trans HG7.out hg8)
          clear hg8
          go_wp2_with fail
          refine Calls.mono HC8.out ?_
          rintro e' w9 ⟨rfl, hk9, hg9⟩
          have HK9 := Lib.hid hk9
          clear hk9 HC8
          go_wp2
          go_roundw
          case rel => exact ⟨k + 1, hlt', by go_num, HK9.out.to (by rw [HT1.out, HV1.out, HKN.out]; simp) (by rw [HT2.out, HV2.out, ← HM7E.out]; simp [Bool.or_assoc]), grown_trans HG8.out hg9⟩
          case measure => simp [intOf]; omega
        · have HC8 := Lib.hid (fdims_any HK7.out HD7.out)
          go_wp2_with fail
          refine Calls.mono HC8.out ?_
          rintro e' w9 ⟨rfl, hk9, hg9⟩
          have HK9 := Lib.hid hk9
          clear hk9 HC8
          go_wp2
          go_roundw
          case rel => exact ⟨k + 1, hlt', by go_num, HK9.out.to (by rw [HT1.out, HV1.out, HKN.out, ← HB7E.out]; simp [Bool.or_assoc]) (by rw [HT2.out, HV2.out, ← HM7E.out]; simp [Bool.or_assoc]), grown_trans HG7.out hg9⟩
          case measure => simp [intOf]; omega
      · have hke : k = l.length := by omega
        subst hke
        rw [List.take_length] at hkr
        have HKR := Lib.hid hkr
        clear hkr hgr
        go_wp2
        go_end0
        exact ⟨rfl, HKR.out, grown_trans HG4.out HGR.out⟩
end
end Go.Proofs.YtlhpmlknmgocoaaGreat

/- The document's Check. -/
namespace Go.Proofs.YtlhpmlknmgocoaaGreat
set_option linter.unusedSimpArgs false
set_option linter.unusedVariables false
open Go.RowKit

/-- the document says no more of a tensor of an unknown type; the answer is the same -/
theorem chk_ref (m : Mo) : chk true m = chk false m := by
  unfold chk
  cases hb : badM m
  · have hT : ∀ t : Tn, badT t = false → manyT true t = manyT false t := fun t ht => by
      simp only [badT, Bool.or_eq_false_iff, Bool.not_eq_false'] at ht
      simp [manyT, ht.1.1]
    have hA : ∀ a : Atr, badA a = false → manyA true a = manyA false a := fun a ha => by
      simp only [badA, Bool.or_eq_false_iff] at ha
      have h4 := ha.2
      by_cases hk : a.kind = 4
      · rw [hk] at h4
        simp at h4
        simp [manyA, hT _ h4]
      · simp [manyA, hk]
    have hany : ∀ {α : Type} (p q r : α → Bool) (l : List α), l.any r = false → (∀ a, r a = false → p a = q a) → l.any p = l.any q := fun p q r l hl h => by
      induction l with
      | nil => rfl
      | cons a l ih =>
        simp only [List.any_cons, Bool.or_eq_false_iff] at hl ⊢
        rw [h a hl.1, ih hl.2]
    have hN : ∀ n : Nod, badN n = false → manyN true n = manyN false n := fun n hn => by
      simp only [badN, Bool.or_eq_false_iff] at hn
      simp only [manyN]
      rw [hany (manyA true) (manyA false) badA n.attrs hn.2 hA]
    have hC : ∀ c : Ini, badC c = false → manyC true c = manyC false c := fun c hc => by
      simp only [manyC]
      rw [hT c.t hc]
    simp only [badM, Bool.or_eq_false_iff] at hb
    have hm : manyM true m = manyM false m := by
      unfold manyM
      rw [hany (manyN true) (manyN false) badN m.nodes hb.1.1.1.2 hN, hany (manyC true) (manyC false) badC m.inits hb.1.1.2 hC]
    rw [hm]
  · rfl
def manyR (c : Ini) : Bool := longP c.name || manyT true c.t
theorem Held.ini_at2 {w : World} {S : Nat → Prop} {A : Option Addr} {m c : Nat} {xs : List Ini} (h : Held w S (.row 6 (xs.flatMap datC)) (.slice A m c)) {k : Nat} (hk : k < xs.length) :
    ∃ b off A1 c1 A2 c2 A3 c3 A4 c4, A = some ⟨b, off, none⟩ ∧ S b ∧ HL w S (datT xs[k].t) [.int .i64 xs[k].t.ty.toInt, .slice A1 xs[k].t.dims.length c1, .slice A2 xs[k].t.f.length c2, .slice A3 xs[k].t.i.length c3, .slice A4 xs[k].t.b.length c4] ∧
      w.cell? ⟨b, off + k * 6, none⟩ = some (.string ⟨xs[k].name.toArray⟩) ∧ w.cell? ⟨b, off + k * 6 + 1, none⟩ = some (.int .i64 xs[k].t.ty.toInt) ∧ w.cell? ⟨b, off + k * 6 + 2, none⟩ = some (.slice A1 xs[k].t.dims.length c1) ∧
      w.cell? ⟨b, off + k * 6 + 3, none⟩ = some (.slice A2 xs[k].t.f.length c2) ∧ w.cell? ⟨b, off + k * 6 + 4, none⟩ = some (.slice A3 xs[k].t.i.length c3) ∧ w.cell? ⟨b, off + k * 6 + 5, none⟩ = some (.slice A4 xs[k].t.b.length c4) := by
  obtain ⟨b, off, us, hA, hs, hl, hc⟩ := Held.rowAt (f := datC) (n := 6) (fun _ => rfl) (by omega) h hk
  obtain ⟨A1, c1, A2, c2, A3, c3, A4, c4, rfl, ht⟩ := hl.ini
  exact ⟨b, off, A1, c1, A2, c2, A3, c3, A4, c4, hA, hs, ht, hc 0 _ rfl, hc 1 _ rfl, hc 2 _ rfl, hc 3 _ rfl, hc 4 _ rfl, hc 5 _ rfl⟩
section
variable {S : Nat → Prop} {us : List Value} {w : World}
set_option maxRecDepth 100000 in
set_option maxHeartbeats 1600000 in
theorem fcheck_any {m : Mo} (hl : HL w S (datM m) us) :
    Calls Tryz.prog 8 #[.agg us.toArray] w (fun e w' => e = .returned (.int .i64 (chk false m)) ∧ Below w.heap.size w w') := by
  rw [← chk_ref]
  have hl := hl.lt
  have hS : ¬ (fun b => S b ∧ b < w.heap.size) (w.heap.size + 1) := fun h => by have := h.2; omega
  generalize (fun b => S b ∧ b < w.heap.size) = S' at *
  obtain ⟨A1, c1, A2, c2, A3, c3, A4, c4, rfl, hno, hin, hip, hou, b1, b2, b3, b4⟩ := hl.mod
  obtain ⟨ops, nm, nodes, inits, inputs, outputs⟩ := m
  dsimp only at *
  clear hl
  have HOP : Hid (decide (ops = 17) = decide (ops.toInt = 17)) := Lib.hid (by rw [decide_eq_decide, ← Int64.toInt_inj]; rfl)
  go_enter Tryz.func8, Tryz.ntmps8
  go_upto_region 1 with fail
  go_cut [3] (fun s wx => s = .pointer (some ⟨w.heap.size + 1, 0, none⟩) ∧ wx = (w.alloc (.cells #[.int .i64 ops.toInt, .string ⟨nm.toArray⟩, .slice A1 nodes.length c1, .slice A2 inits.length c2, .slice A3 inputs.length c3, .slice A4 outputs.length c4] 26)).alloc (.cells #[.bool (!decide (ops = 17)), .bool false, .bool false] 79))
  case first =>
    as_aux_lemma =>
      have HO := Lib.hid HOP.out
      have hop : ops.toInt = 17 ∨ ¬ ops.toInt = 17 := Classical.em _
      generalize ops.toInt = od at *
      rcases hop with rfl | hop
      · go_wp2
        go_meet
        case rel => exact ⟨rfl, by rw [HO.out]; rfl⟩
      · have e1 : (od == 17) = false := by simpa using hop
        have HE2 : Hid (decide (od = 17) = false) := Lib.hid (by simpa using hop)
        go_wp2
        go_meet
        case rel => exact ⟨rfl, by rw [HO.out, HE2.out]; first | rfl | (simp [bne, e1])⟩
  case rest =>
    obtain ⟨rfl, hcut⟩ := hcut
    have hlt : w.heap.size + 1 < wc.heap.size := by rw [hcut]; simp
    have hk1 : FgB wc (w.heap.size + 1) (!decide (ops = 17)) false := by
      rw [hcut]; exact Blk.new' _ _ _ (by simp)
    have hb1 : Blk wc w.heap.size 26 #[.int .i64 ops.toInt, .string ⟨nm.toArray⟩, .slice A1 nodes.length c1, .slice A2 inits.length c2, .slice A3 inputs.length c3, .slice A4 outputs.length c4] := by
      rw [hcut]; exact (Blk.new _ _ _).alloc _
    have hbel : Below w.heap.size w wc := by rw [hcut]; exact ((Below.refl _ _).alloc (Nat.le_refl _) _).alloc (by simp) _
    have HNO := Lib.hid (hno.past hbel)
    have HIN := Lib.hid (hin.past hbel)
    have HIP := Lib.hid (hip.past hbel)
    have HOU := Lib.hid (hou.past hbel)
    obtain ⟨q, hq⟩ : ∃ q, (decide (1024 < nodes.length) || decide (1024 < inits.length)) = q := ⟨_, rfl⟩
    have HQ := Lib.hid hq
    have HCH : Hid (chk true ⟨ops, nm, nodes, inits, inputs, outputs⟩ = if (((((!decide (ops = 17)) || nodes.any badN) || inits.any badC) || inputs.any badV) || outputs.any badV) = true then 1 else
        if ((((((((false || longP nm) || q) || nodes.any (manyN true)) || inits.any manyR) || decide (64 < inputs.length)) || inputs.any manyV) || decide (64 < outputs.length)) || outputs.any manyV) = true then 8 else 0) := Lib.hid (by
      have hm : manyM true ⟨ops, nm, nodes, inits, inputs, outputs⟩ = ((((((((false || longP nm) || q) || nodes.any (manyN true)) || inits.any manyR) || decide (64 < inputs.length)) || inputs.any manyV) || decide (64 < outputs.length)) || outputs.any manyV) := by
        have hr : inits.any (manyC true) = inits.any manyR := rfl
        simp only [manyM, hr, ← hq]
        generalize decide (1024 < nodes.length) = x1; generalize decide (1024 < inits.length) = x2; generalize longP nm = x3
        simp only [Bool.or_assoc, Bool.false_or]
        cases x1 <;> cases x2 <;> cases x3 <;> simp
      simp only [chk, hm, badM])
    clear hcut hno hin hip hou hq
    obtain ⟨W1, hW⟩ : ∃ W, W = wc := ⟨_, rfl⟩
    subst hW
    obtain ⟨p, hp⟩ : ∃ p, w.heap.size = p := ⟨_, rfl⟩
    obtain ⟨g, hg⟩ : ∃ g, w.heap.size + 1 = g := ⟨_, rfl⟩
    have hpg : p + 1 = g := by omega
    rw [hg] at hk1 hS hlt
    rw [hp] at hb1
    have HP := Lib.hid hp
    have HBEL := Lib.hid hbel
    have hBW : w.heap.size ≤ W1.heap.size := hbel.size
    rw [hg, hp]
    clear hp hg hbel
    generalize (!decide (ops = 17)) = b0 at *
    have HB1 := Lib.hid hb1
    have HC := Lib.hid (flong_any (s := nm) hk1)
    clear hk1 hb1
    obtain ⟨p0, p1, p2, p3, p4, p5, -, -, -, -, -, -, lp⟩ := blkc6 HB1.out
    go_wp2_with fail
    refine Calls.mono HC.out ?_
    rintro e W2 ⟨rfl, hk2, hg2⟩
    have HB2 := Lib.hid (HB1.out.grown hg2 (fun e => by injection e with e; omega))
    have HG2 := Lib.hid hg2
    have HK2 := Lib.hid hk2
    clear HC p0 p1 p2 p3 p4 p5 lp hg2 hk2 HB1
    obtain ⟨p0, p1, p2, p3, p4, p5, -, -, -, -, -, -, lp⟩ := blkc6 HB2.out
    obtain ⟨k0, k1, k2, z0, z1, z2, hgw⟩ := HK2.out.cells
    go_upto_region 3 with fail
    go_cut [24] (fun s wx => s = .bool q ∧ wx = W2)
    case first =>
      as_aux_lemma =>
        by_cases y1 : (nodes.length : Int) > 1024
        · go_wp2
          go_meet
          case rel => exact ⟨by rw [← HQ.out]; simp; omega, rfl⟩
        by_cases y2 : (inits.length : Int) > 1024
        · go_wp2
          go_meet
          case rel => exact ⟨by rw [← HQ.out]; simp; omega, rfl⟩
        · go_wp2
          go_meet
          case rel => exact ⟨by rw [← HQ.out]; simp; omega, rfl⟩
    case rest =>
      obtain ⟨rfl, hw⟩ := hcut
      subst hw
      go_upto_if 24 with fail
      go_cut [] (fun wx => FgB wx g b0 ((false || longP nm) || q) ∧ Blk wx p 26 #[.int .i64 ops.toInt, .string ⟨nm.toArray⟩, .slice A1 nodes.length c1, .slice A2 inits.length c2, .slice A3 inputs.length c3, .slice A4 outputs.length c4] ∧ W1.grownBy wx (some g))
      case first =>
        cases q
        · go_wp2
          go_meet
          case rel => exact ⟨HK2.out.to rfl (by simp), HB2.out, HG2.out⟩
        · go_wp2
          go_meet
          case rel => exact ⟨(HK2.out.set2 true).to rfl (by simp), HB2.out.far (p := ⟨g, 2, none⟩) (by simp; omega) _, grown_trans HG2.out (grown_set _ _ _ _)⟩
      case rest =>
        obtain ⟨hk5, hb5, hg5⟩ := hcut
        obtain ⟨W5, hW⟩ : ∃ W, W = wc := ⟨_, rfl⟩
        subst hW
        have HB5 := Lib.hid hb5
        have HG5 := Lib.hid hg5
        have HK5 := Lib.hid hk5
        clear p0 p1 p2 p3 p4 p5 lp k0 k1 k2 z0 z1 z2 hgw hk5 hg5 hb5 HK2 HB2 HG2 HQ
        obtain ⟨m5, hm5⟩ : ∃ x, ((false || longP nm) || q) = x := ⟨_, rfl⟩
        rw [hm5] at HCH HK5
        clear hm5
        obtain ⟨p0, p1, p2, p3, p4, p5, -, -, -, -, -, -, lp⟩ := blkc6 HB5.out
        go_wp2
        go_loopw [4] (fun i wr => FLrel badN (manyN true) nodes W5 g b0 m5 i wr) (fun i _ => nodes.length - (intOf i).toNat)
        case atStart => exact FLrel.start HK5.out (grown_same _ _)
        case round =>
          obtain ⟨k, hk', rfl, hkr, hgr⟩ := hrel
          have HB := Lib.hid (HB5.out.grown hgr (fun e => by injection e with e; omega))
          clear p0 p1 p2 p3 p4 p5 lp
          obtain ⟨p0, p1, p2, p3, p4, p5, -, -, -, -, -, -, lp⟩ := blkc6 HB.out
          have HGR := Lib.hid hgr
          by_cases hlt' : k < nodes.length
          · obtain ⟨bx, off, D1, d1, D2, d2, D3, d3, rfl, hla, a0, a1, a2, a3, a4⟩ := (HNO.out.rd hS (grown_trans HG5.out hgr)).nod_at hlt'
            have HT1 := Lib.hid (any_take1 badN hlt')
            have HT2 := Lib.hid (any_take1 (manyN true) hlt')
            generalize nodes[k] = a at *
            have HC := Lib.hid (fnode_any hkr hla hS)
            clear hkr hgr hla
            go_wp2_with fail
            refine Calls.mono HC.out ?_
            rintro e' w7 ⟨rfl, hk7, hg7⟩
            have HK7 := Lib.hid hk7
            clear hk7
            go_wp2
            go_roundw
            case rel => exact ⟨k + 1, hlt', by go_num, HK7.out.to (by rw [HT1.out, Bool.or_assoc]) (by rw [HT2.out, Bool.or_assoc]), grown_trans HGR.out hg7⟩
            case measure => simp [intOf]; omega
          · have hke : k = nodes.length := by omega
            subst hke
            rw [List.take_length] at hkr
            obtain ⟨W6, hW⟩ : ∃ W, W = wr := ⟨_, rfl⟩
            subst hW
            obtain ⟨b6, hb6⟩ : ∃ x, (b0 || nodes.any badN) = x := ⟨_, rfl⟩
            obtain ⟨m6, hm6⟩ : ∃ x, (m5 || nodes.any (manyN true)) = x := ⟨_, rfl⟩
            rw [hb6, hm6] at HCH hkr
            have HK6 := Lib.hid hkr
            have HB6 := HB
            have HG6 := Lib.hid (grown_trans HG5.out HGR.out)
            clear hkr hgr HB HGR hb6 hm6
            go_wp2
            go_loopw [5] (fun i wr => FLrel badC manyR inits W6 g b6 m6 i wr) (fun i _ => inits.length - (intOf i).toNat)
            case atStart => exact FLrel.start HK6.out (grown_same _ _)
            case round =>
              obtain ⟨k, hk', rfl, hkr, hgr⟩ := hrel
              have HB := Lib.hid (HB6.out.grown hgr (fun e => by injection e with e; omega))
              clear p0 p1 p2 p3 p4 p5 lp
              obtain ⟨p0, p1, p2, p3, p4, p5, -, -, -, -, -, -, lp⟩ := blkc6 HB.out
              have HGR := Lib.hid hgr
              by_cases hlt' : k < inits.length
              · obtain ⟨bx, off, D1, d1, D2, d2, D3, d3, D4, d4, rfl, hsb, hla, a0, a1, a2, a3, a4, a5⟩ := (HIN.out.rd hS (grown_trans HG6.out hgr)).ini_at2 hlt'
                have hne : ∀ x : Nat, ¬ (some (Addr.block ⟨bx, x, none⟩) = some g) := fun x e => hS (by injection e with e; exact e ▸ hsb)
                have HT1 := Lib.hid (any_take1 badC hlt')
                have HT2 := Lib.hid (any_take1 manyR hlt')
                generalize inits[k] = a at *
                have HV1 : Hid (badC a = badT a.t) := Lib.hid rfl
                have HV2 : Hid (manyR a = (longP a.name || manyT true a.t)) := Lib.hid rfl
                have HC := Lib.hid (flong_any (s := a.name) hkr)
                have HLA := Lib.hid hla
                have HNE := Lib.hid hne
                clear hkr hgr hla hne
                go_wp2_with fail
                refine Calls.mono HC.out ?_
                rintro e' w7 ⟨rfl, hk7, hg7⟩
                have A1' := hg7.cell a1 (HNE.out (off + k * 6 + 1))
                have A2' := hg7.cell a2 (HNE.out (off + k * 6 + 2))
                have A3' := hg7.cell a3 (HNE.out (off + k * 6 + 3))
                have A4' := hg7.cell a4 (HNE.out (off + k * 6 + 4))
                have A5' := hg7.cell a5 (HNE.out (off + k * 6 + 5))
                have HB7 := Lib.hid (HB.out.grown hg7 (fun e => by injection e with e; omega))
                have HC8 := Lib.hid (fwrong_any hk7 (HLA.out.rd hS hg7))
                have HG7 := Lib.hid (grown_trans HGR.out hg7)
                clear hk7 hg7 a0 a1 a2 a3 a4 a5 HC HLA p0 p1 p2 p3 p4 p5 lp
                obtain ⟨p0, p1, p2, p3, p4, p5, -, -, -, -, -, -, lp⟩ := blkc6 HB7.out
                go_wp2_with fail
                refine Calls.mono HC8.out ?_
                rintro e' w9 ⟨rfl, hk9, hg9⟩
                have HK9 := Lib.hid hk9
                clear hk9 HC8
                go_wp2
                go_roundw
                case rel => exact ⟨k + 1, hlt', by go_num, HK9.out.to (by rw [HT1.out, HV1.out, Bool.or_assoc]) (by rw [HT2.out, HV2.out]; simp [Bool.or_assoc]), grown_trans HG7.out hg9⟩
                case measure => simp [intOf]; omega
              · have hke : k = inits.length := by omega
                subst hke
                rw [List.take_length] at hkr
                obtain ⟨b7, hb7⟩ : ∃ x, (b6 || inits.any badC) = x := ⟨_, rfl⟩
                obtain ⟨m7, hm7⟩ : ∃ x, (m6 || inits.any manyR) = x := ⟨_, rfl⟩
                rw [hb7, hm7] at HCH hkr
                have hg60 := grown_trans HG6.out hgr
                have HC := Lib.hid (fvalues_any hkr (HIP.out.rd hS hg60) hS)
                have HG7 := Lib.hid hg60
                clear hkr hgr hb7 hm7 hg60
                go_wp2_with fail
                refine Calls.mono HC.out ?_
                rintro e' w9 ⟨rfl, hk9, hg9⟩
                have hg90 := grown_trans HG7.out hg9
                have HB9 := Lib.hid (HB.out.grown hg9 (fun e => by injection e with e; omega))
                have HC2 := Lib.hid (fvalues_any hk9 (HOU.out.rd hS hg90) hS)
                have HG9 := Lib.hid hg90
                clear p0 p1 p2 p3 p4 p5 lp HC hk9 hg9 hg90
                obtain ⟨p0, p1, p2, p3, p4, p5, -, -, -, -, -, -, lp⟩ := blkc6 HB9.out
                go_wp2_with fail
                refine Calls.mono HC2.out ?_
                rintro e' w10 ⟨rfl, hk10, hg10⟩
                have HBL : Hid (Below w.heap.size w w10) := Lib.hid (HBEL.out.grown (grown_trans HG9.out hg10) hBW (fun k e => by injection e with e; have := HP.out; omega))
                obtain ⟨bF, hbF⟩ : ∃ x, ((b7 || inputs.any badV) || outputs.any badV) = x := ⟨_, rfl⟩
                obtain ⟨mF, hmF⟩ : ∃ x, ((((m7 || decide (64 < inputs.length)) || inputs.any manyV) || decide (64 < outputs.length)) || outputs.any manyV) = x := ⟨_, rfl⟩
                rw [hbF, hmF] at HCH hk10
                obtain ⟨k0, k1, k2, z0, z1, z2, hgw⟩ := hk10.cells
                clear p0 p1 p2 p3 p4 p5 lp HC2 hk10 hg10 hbF hmF
                cases bF
                · cases mF
                  all_goals
                    go_wp2
                    go_ret
                    rw [HCH.out]
                    exact ⟨rfl, HBL.out⟩
                · go_wp2
                  go_ret
                  rw [HCH.out]
                  exact ⟨rfl, HBL.out⟩
end
end Go.Proofs.YtlhpmlknmgocoaaGreat
