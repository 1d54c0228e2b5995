/- The reader's dim, set. -/
import Derived.Test.YtlhpmlknmgocoaaGreatOnH
namespace Go.Proofs.YtlhpmlknmgocoaaGreat
set_option linter.unusedSimpArgs false
set_option linter.unusedVariables false
open Go.RowKit

theorem bytes_eq (a b : List UInt8) : ((⟨a.toArray⟩ : ByteArray) = ⟨b.toArray⟩) ↔ a = b := by
  constructor
  · intro h
    have := congrArg (fun x : ByteArray => x.data.toList) h
    simpa using this
  · intro h; rw [h]
theorem ours_any (l : List UInt8) (w : World) : Calls Tryz.prog 92 #[.string ⟨l.toArray⟩] w fun e w' => e = .returned (.bool (oursP l)) ∧ w' = w := by
  by_cases h0 : l = []
  · subst h0
    go_enter Tryz.func92, Tryz.ntmps92
    go_wp2
    go_ret
    exact ⟨rfl, rfl⟩
  · by_cases h1 : l = aiP
    · subst h1
      go_enter Tryz.func92, Tryz.ntmps92
      go_wp2
      go_ret
      exact ⟨rfl, rfl⟩
    · have e : Hid (oursP l = false) := Lib.hid (by simp [oursP, h0, h1])
      have n0 : l.isEmpty = false := by cases l with | nil => exact absurd rfl h0 | cons => rfl
      have n1 : (l == [97, 105, 46, 111, 110, 110, 120]) = false := by rw [beq_eq_false_iff_ne]; exact h1
      clear h1
      go_enter Tryz.func92, Tryz.ntmps92
      go_wp2
      go_ret
      rw [e.out]
      exact ⟨rfl, rfl⟩
theorem RdB.far' {w : World} {g q i : Nat} {f : Fl} (h : RdB w g f) (hq : q ≠ g) (x : Value) : RdB (w.setCell ⟨q, i, none⟩ x) g f := Blk.far h (fun e => hq e.symm) x
section
variable {g : Nat} {f : Fl} {S : Nat → Prop} {v : Value} {w : World}
set_option maxRecDepth 100000 in
theorem dim_any {b : List UInt8} (hk : RdB w g f) (hv : Held w S (datB b) v) :
    Calls Tryz.prog 101 #[.pointer (some ⟨g, 0, none⟩), v] w fun e w' => e = .returned (.int .i64 (dDim b).1.toInt) ∧ RdB w' g (f.or (dDim b).2) ∧ w.grownBy w' (some g) := by
  have hsm := dFields_sm b
  obtain ⟨A, c, rfl, -⟩ := hv.dv
  go_enter Tryz.func101, Tryz.ntmps101
  go_wp2_with fail
  refine Calls.mono (fields_any hk hv) ?_
  rintro e W1 ⟨u1, rfl, h1, k1, g1⟩
  obtain ⟨⟨fs, fl1⟩, hfs⟩ : ∃ r, dFields b = r := ⟨_, rfl⟩
  rw [hfs] at hsm h1 k1
  obtain ⟨A1, c1, rfl, -⟩ := h1.rf
  have HFS := Lib.hid hfs
  dsimp only at hsm h1 k1
  clear hv hfs hk
  obtain ⟨x, hx⟩ : ∃ x, (dNum fs 1).1.1 = x := ⟨_, rfl⟩
  obtain ⟨is, his⟩ : ∃ x, (dNum fs 1).1.2 = x := ⟨_, rfl⟩
  have HE : Hid (dDim b = (x, fl1.or ((dNum fs 1).2.or ⟨false, !is, false⟩))) := Lib.hid (by unfold dDim; rw [HFS.out]; dsimp only; rw [hx, his])
  go_wp2_with fail
  refine Calls.mono (number_any 1 k1 h1 hsm) ?_
  rintro e W2 ⟨rfl, k2, g2⟩
  rw [hx, his]
  have K2 := Lib.hid k2
  have G2 := Lib.hid (grown_trans g1 g2)
  obtain ⟨c0, c1', c2, z0, z1, z2, lg⟩ := k2.cells
  obtain ⟨q, hq⟩ : ∃ q, ((f.or fl1).or (dNum fs 1).2).strange = q := ⟨_, rfl⟩
  rw [hq] at c1'
  have HQ := Lib.hid hq
  clear hx his k1 k2 h1 g1 g2 hq
  have hw : q = true ∨ (q = false ∧ is = true) ∨ (q = false ∧ is = false) := by cases q <;> cases is <;> simp
  rcases hw with rfl | ⟨rfl, rfl⟩ | ⟨rfl, rfl⟩
  · go_wp2
    go_ret
    rw [HE.out]
    refine ⟨rfl, (K2.out.or1 (!is) ?_).to ?_, grown_trans G2.out (grown_set _ _ _ _)⟩
    · rw [HQ.out]; rfl
    · simp only [Fl.or_assoc]
  · go_wp2
    go_ret
    rw [HE.out]
    refine ⟨rfl, (K2.out.or1 (!true) ?_).to ?_, grown_trans G2.out (grown_set _ _ _ _)⟩
    · rw [HQ.out]; rfl
    · simp only [Fl.or_assoc]
  · go_wp2
    go_ret
    rw [HE.out]
    refine ⟨rfl, (K2.out.or1 (!false) ?_).to ?_, grown_trans G2.out (grown_set _ _ _ _)⟩
    · rw [HQ.out]; rfl
    · simp only [Fl.or_assoc]
theorem ver_out (w : World) (tmps : Array Value) (g : Nat) (c0 c1 : Value) (h4 : tmps.getD 4 undef = .pointer (some ⟨g, 0, none⟩)) (hk : Blk w g 136 #[c0, c1]) :
    (results Tryz.f75 tmps).run Tryz.prog w = .ok (.agg #[c0, c1]) w := by
  have k0 := hk.cell 0
  have k1 := hk.cell 1
  simp at k0 k1
  rw [Array.getD_eq_getD_getElem?] at h4
  simp [results, Tryz.results75, go_sem, h4, k0, k1]
set_option maxRecDepth 100000 in
theorem ownSet_any {b : List UInt8} (hk : RdB w g f) (hv : Held w S (datB b) v) :
    Calls Tryz.prog 75 #[.pointer (some ⟨g, 0, none⟩), v] w fun e w' => e = .returned (.agg #[.bool (dOwn b).1.1, .int .i64 (dOwn b).1.2.toInt]) ∧ RdB w' g (f.or (dOwn b).2) ∧ w.grownBy w' (some g) := by
  have hsm := dFields_sm b
  have hlt := hk.lt
  obtain ⟨A, c, rfl, -⟩ := hv.dv
  go_enter Tryz.func75, Tryz.ntmps75
  go_wp2_with fail
  refine Calls.mono (fields_any (hk.alloc _) (hv.alloc _)) ?_
  rintro e W1 ⟨u1, rfl, h1, k1, g1⟩
  obtain ⟨⟨fs, fl1⟩, hfs⟩ : ∃ r, dFields b = r := ⟨_, rfl⟩
  rw [hfs] at hsm h1 k1
  obtain ⟨A1, c1, rfl, -⟩ := h1.rf
  have HFS := Lib.hid hfs
  dsimp only at hsm h1 k1
  clear hv hfs hk
  obtain ⟨x, hx⟩ : ∃ x, (dText fs 1 4194304).1 = x := ⟨_, rfl⟩
  obtain ⟨nn, hn⟩ : ∃ x, (dNum fs 2).1.1 = x := ⟨_, rfl⟩
  have HE : Hid (dOwn b = ((oursP x, nn), fl1.or ((dText fs 1 4194304).2.or (dNum fs 2).2))) := Lib.hid (by unfold dOwn; rw [HFS.out]; dsimp only; rw [hx, hn])
  go_wp2_with fail
  refine Calls.mono (domain_any 1 k1 h1 hsm) ?_
  rintro e W2 ⟨rfl, k2, g2⟩
  rw [hx, show strV x = .string ⟨x.toArray⟩ from rfl]
  have hz1 := g1.size
  have h2 := h1.rd (g := g) (fun h => by have := h.1; simp at this; omega) g2
  clear h1 hx
  go_wp2_with fail
  refine Calls.mono (number_any 2 k2 h2 hsm) ?_
  rintro e W3 ⟨rfl, k3, g3⟩
  rw [hn]
  have hb := (((Blk.new w 136 #[.bool false, .int .i64 0]).grown g1 (fun e => by injection e with e; omega)).grown g2 (fun e => by injection e with e; omega)).grown g3 (fun e => by injection e with e; omega)
  have hq : w.heap.size ≠ g := by omega
  have q0 := hb.cell 0
  have q1 := hb.cell 1
  have y0 := hb.frozen 0
  have y1 := hb.frozen 1
  have lq := hb.lt
  simp at q0 q1
  have K3 := Lib.hid k3
  have G3 := Lib.hid (grown_trans (grown_trans (grown_alloc _ _) g1) (grown_trans g2 g3))
  clear k1 k2 k3 h2 g1 g2 g3 hn
  go_wp2_with (go_at_call 92; refine Calls.mono (ours_any _ _) ?_; rintro e' w' ⟨rfl, hw'⟩; subst w')
  refine bodyPost_ret (ver_out _ _ w.heap.size _ _ rfl ((hb.set_ 0 _).set_ 1 _)) rfl ?_
  rw [HE.out]
  refine ⟨rfl, ((K3.out.far' hq _).far' hq _).to (by simp only [Fl.or_assoc]), grown_setOwn (grown_setOwn G3.out (Nat.le_refl _)) (Nat.le_refl _)⟩
end
end Go.Proofs.YtlhpmlknmgocoaaGreat
