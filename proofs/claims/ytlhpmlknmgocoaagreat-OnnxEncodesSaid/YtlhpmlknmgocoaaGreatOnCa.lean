/- The writer's small methods: what they note. -/
import Derived.Test.YtlhpmlknmgocoaaGreatOnF
namespace Go.Proofs.YtlhpmlknmgocoaaGreat
set_option linter.unusedSimpArgs false
set_option linter.unusedVariables false
open Go.RowKit

def WrB (w : World) (g : Nat) (b m : Bool) : Prop := Blk w g 63 #[.bool b, .bool m]
section
variable {w w' : World} {g : Nat} {b m : Bool}
theorem WrB.set0 (h : WrB w g b m) (x : Bool) : WrB (w.setCell ⟨g, 0, none⟩ (.bool x)) g x m := by
  have := h.set_ 0 (.bool x)
  simpa [WrB] using this
theorem WrB.set1 (h : WrB w g b m) (x : Bool) : WrB (w.setCell ⟨g, 1, none⟩ (.bool x)) g b x := by
  have := h.set_ 1 (.bool x)
  simpa [WrB] using this
theorem WrB.past (h : WrB w g b m) (hb : Below w.heap.size w w') : WrB w' g b m := Blk.below h hb h.lt
theorem WrB.alloc (h : WrB w g b m) (o : Obj) : WrB (w.alloc o) g b m := Blk.alloc h o
theorem WrB.to {b' m' : Bool} (h : WrB w g b m) (e : b = b') (e' : m = m') : WrB w g b' m' := e ▸ e' ▸ h
theorem WrB.cells (h : WrB w g b m) : w.cell? ⟨g, 0, none⟩ = some (.bool b) ∧ w.cell? ⟨g, 1, none⟩ = some (.bool m) ∧ w.frozen? ⟨g, 0, none⟩ = false ∧ w.frozen? ⟨g, 1, none⟩ = false ∧ g < w.heap.size :=
  ⟨h.cell 0, h.cell 1, h.frozen 0, h.frozen 1, h.lt⟩
end
/-- a call that only notes -/
def WN (w : World) (g : Nat) (b m : Bool) (e : Ending) (w' : World) : Prop := e = .returned (.tuple #[]) ∧ WrB w' g b m ∧ w.grownBy w' (some g)

/-! ### data at hand -/
theorem HL.one {w : World} {S : Nat → Prop} {d : Dat} {ds : List Dat} {us : List Value} (h : HL w S (d :: ds) us) : ∃ u us', us = u :: us' ∧ Held w S d u ∧ HL w S ds us' := by
  cases h with
  | cons h1 h2 => exact ⟨_, _, rfl, h1, h2⟩
theorem HL.none {w : World} {S : Nat → Prop} {us : List Value} (h : HL w S [] us) : us = [] := by cases h; rfl
theorem HL.keep {w w' : World} {S S' : Nat → Prop} {ds : List Dat} {vs : List Value} (h : HL w S ds vs) (hk : ∀ {d : Dat} {v : Value}, Held w S d v → Held w' S' d v) : HL w' S' ds vs := by
  induction h with
  | nil => exact .nil
  | cons h1 _ ih => exact .cons (hk h1) ih
/-- a slice of a kind of leaves -/
theorem Held.form1 {w : World} {S : Nat → Prop} {α : Type} {f : α → Value} {xs : List α} {v : Value} (h : Held w S (.row 1 (xs.map fun x => .leaf (f x))) v) :
    ∃ A c, v = .slice A xs.length c ∧ xs.length ≤ c ∧ c ≤ maxLen ∧ xs.length ≤ 140737488355328 := by
  obtain ⟨A, c, h1, h2, h3, h4, -⟩ := h.leaves
  exact ⟨A, c, h1, h2, h3, h4⟩
theorem HL.ten {w : World} {S : Nat → Prop} {t : Tn} {us : List Value} (h : HL w S (datT t) us) :
    ∃ A1 c1 A2 c2 A3 c3 A4 c4, us = [.int .i64 t.ty.toInt, .slice A1 t.dims.length c1, .slice A2 t.f.length c2, .slice A3 t.i.length c3, .slice A4 t.b.length c4] ∧
      Held w S (datI t.dims) (.slice A1 t.dims.length c1) ∧ Held w S (datF t.f) (.slice A2 t.f.length c2) ∧ Held w S (datI t.i) (.slice A3 t.i.length c3) ∧ Held w S (datO t.b) (.slice A4 t.b.length c4) ∧
      t.dims.length ≤ 140737488355328 ∧ t.f.length ≤ 140737488355328 ∧ t.i.length ≤ 140737488355328 ∧ t.b.length ≤ 140737488355328 := by
  obtain ⟨u0, us0, rfl, h0, h⟩ := h.one
  obtain ⟨u1, us1, rfl, h1, h⟩ := h.one
  obtain ⟨u2, us2, rfl, h2, h⟩ := h.one
  obtain ⟨u3, us3, rfl, h3, h⟩ := h.one
  obtain ⟨u4, us4, rfl, h4, h⟩ := h.one
  obtain rfl := h.none
  obtain rfl := h0.leaf_eq
  obtain ⟨A1, c1, rfl, -, -, b1⟩ := Held.form1 h1
  obtain ⟨A2, c2, rfl, -, -, b2⟩ := Held.form1 h2
  obtain ⟨A3, c3, rfl, -, -, b3⟩ := Held.form1 h3
  obtain ⟨A4, c4, rfl, -, -, b4⟩ := Held.form1 h4
  exact ⟨A1, c1, A2, c2, A3, c3, A4, c4, rfl, h1, h2, h3, h4, b1, b2, b3, b4⟩
theorem Held.str_at {w : World} {S : Nat → Prop} {A : Option Addr} {n c : Nat} {l : List (List UInt8)} (h : Held w S (datS l) (.slice A n c)) {k : Nat} (hk : k < l.length) : ∃ b off, A = some ⟨b, off, none⟩ ∧ S b ∧ w.cell? ⟨b, off + k, none⟩ = some (.string ⟨l[k].toArray⟩) := by
  obtain ⟨A', c', e, -, -, -, h5⟩ := Held.leaves h
  injection e with e1 e2 e3
  subst e1
  exact h5 k hk
theorem long_take {l : List (List UInt8)} {k : Nat} (h : k < l.length) : (l.take (k + 1)).any longP = ((l.take k).any longP || longP l[k]) := by
  rw [List.take_succ_eq_append_getElem h, List.any_append]; simp

def WNrel (l : List (List UInt8)) (w : World) (g : Nat) (b m : Bool) (i : Value) (wr : World) : Prop :=
  ∃ k : Nat, k ≤ l.length ∧ i = .int .i64 (k : Int) ∧ WrB wr g b (m || (l.take k).any longP) ∧ w.grownBy wr (some g)
section
variable {g : Nat} {b m : Bool} {S : Nat → Prop} {v : Value} {w : World}
set_option maxRecDepth 100000 in
set_option maxHeartbeats 1600000 in
theorem wname_any {l : List (List UInt8)} (hk : WrB w g b m) (hv : Held w S (datS l) v) (hS : ¬ S g) :
    Calls Tryz.prog 19 #[.pointer (some ⟨g, 0, none⟩), v] w (WN w g b (m || l.any longP)) := by
  obtain ⟨A, c, rfl, h2, h3, h4⟩ := Held.form1 hv
  have HK := Lib.hid hk
  have hlt0 := hk.lt
  clear hk
  go_enter Tryz.func19, Tryz.ntmps19
  go_wp2
  go_loopw [8] (fun i wr => WNrel l w g b m i wr) (fun i _ => l.length - (intOf i).toNat)
  case atStart => exact ⟨0, Nat.zero_le _, rfl, HK.out.to rfl (by simp), grown_past (Below.refl _ _) _⟩
  case round =>
    obtain ⟨k, hk', rfl, hkr, hgr⟩ := hrel
    by_cases hlt : k < l.length
    · obtain ⟨b1, off, rfl, -, hc1⟩ := (hv.rd hS hgr).str_at hlt
      have HT := Lib.hid (long_take hlt)
      obtain ⟨k0, k1, z0, z1, hgw⟩ := hkr.cells
      obtain ⟨q, hq⟩ : ∃ q, (m || (l.take k).any longP) = q := ⟨_, rfl⟩
      rw [hq] at k1
      have HQ := Lib.hid hq
      have HKR := Lib.hid hkr
      clear hkr hq
      have HP : Hid (longP l[k] = decide (256 < l[k].length)) := Lib.hid rfl
      generalize l[k] = s at *
      cases q
      all_goals
        by_cases hlong : 256 < s.length
        all_goals
          go_wp2
          go_roundw
          case rel => exact ⟨k + 1, hlt, by go_num, (HKR.out.set1 _).to rfl (by rw [HT.out, HP.out, ← Bool.or_assoc, HQ.out]; first | (simp; done) | (simp; omega)), grown_trans hgr (grown_set _ _ _ _)⟩
          case measure => simp [intOf]; omega
    · have hke : k = l.length := by omega
      subst hke
      rw [List.take_length] at hkr
      have HKR := Lib.hid hkr
      clear hkr
      go_wp2
      go_end0
      exact ⟨rfl, HKR.out, hgr⟩
set_option maxRecDepth 100000 in
theorem wcount_any {l : List Int64} (hk : WrB w g b m) (hv : Held w S (datI l) v) :
    Calls Tryz.prog 49 #[.pointer (some ⟨g, 0, none⟩), v] w fun e w' =>
      e = .returned (.tuple #[.int .i64 (cnt l).1, .bool (decide ((cnt l).2 = 0))]) ∧ WrB w' g (b || decide ((cnt l).2 = 1)) (m || decide ((cnt l).2 = 8)) ∧ w.grownBy w' (some g) := by
  have HC := Lib.hid (count_any hv)
  obtain ⟨A, c, rfl, -⟩ := Held.form1 hv
  have herr := cnt_err l
  obtain ⟨⟨cn, er⟩, hr⟩ : ∃ r, cnt l = r := ⟨_, rfl⟩
  rw [hr] at HC herr ⊢
  dsimp only at *
  obtain ⟨k0, k1, z0, z1, hgw⟩ := hk.cells
  have HK := Lib.hid hk
  clear hk hv hr
  go_enter Tryz.func49, Tryz.ntmps49
  go_wp2_with fail
  refine HC.out.mono ?_
  rintro e w' ⟨rfl, hw'⟩
  subst w'
  rcases herr with rfl | rfl | rfl
  all_goals
    cases b
    all_goals
      cases m
      all_goals
        go_wp2
        go_ret2
        exact ⟨rfl, ((HK.out.set0 _).set1 _).to rfl rfl, grown_trans (grown_set _ _ _ _) (grown_set _ _ _ _)⟩
end
end Go.Proofs.YtlhpmlknmgocoaaGreat
