/- The reader's lists: words, and the closures that hold no loop. -/
import Derived.Test.YtlhpmlknmgocoaaGreatOnB
import Derived.RegionTactic
import Derived.BigRegion
namespace Go.Proofs.YtlhpmlknmgocoaaGreat
set_option linter.unusedSimpArgs false
set_option linter.unusedVariables false
open Go.RowKit

theorem grown_own {a b c : World} {g : Nat} {v : Value} (h : a.grownBy b (some g)) (k : b.grownBy c v.ownBlock) (hv : ∀ q, v.ownBlock = some q → a.heap.size ≤ q) : a.grownBy c (some g) :=
  ⟨k.os.trans h.os, k.tape.trans h.tape, k.output.trans h.output, Nat.le_trans h.size k.size, fun i hi hr => (k.block i (Nat.lt_of_lt_of_le hi h.size) (fun e => by have := hv i e.symm; omega)).trans (h.block i hi hr)⟩
theorem grown_alloc {w : World} (o : Obj) (row : Option Nat) : w.grownBy (w.alloc o) row := grown_past ((Below.refl _ _).alloc (Nat.le_refl _) _) _
theorem grown_drew {a b : World} {row : Option Nat} (h : a.grownBy b row) : a.grownBy b.drew row := ⟨h.os, h.tape, h.output, h.size, h.block⟩
theorem grown_drewN {a b : World} {row : Option Nat} (h : a.grownBy b row) (n : Nat) : a.grownBy (b.drewN n) row := ⟨h.os, h.tape, h.output, h.size, h.block⟩
theorem RdB.drew {w : World} {g : Nat} {f : Fl} (h : RdB w g f) : RdB w.drew g f := h
theorem RdB.drewN {w : World} {g : Nat} {f : Fl} (h : RdB w g f) (n : Nat) : RdB (w.drewN n) g f := h

theorem Fl.or_comm (a b : Fl) : a.or b = b.or a := by simp [Fl.or, Bool.or_comm]
theorem Fl.all_snoc (l : List Fl) (a : Fl) : Fl.all (l ++ [a]) = (Fl.all l).or a := by simp [Fl.all, Fl.or]
theorem flb_or (a b : Bool) : (flb a).or (flb b) = flb (a || b) := by simp [Fl.or, flb]

theorem Fl.swap (x r : Fl) (y c : Bool) : (x.or r).or (flb (y || c)) = ((x.or (flb y)).or (flb c)).or r := by
  simp only [Fl.or, flb, Bool.or_false, Fl.mk.injEq, and_true]
  ac_rfl
theorem list_fl (R : List UInt8 → Fl) {gs : List Fld} {k : Nat} (h : k < gs.length) :
    ((Fl.all ((gs.take (k + 1)).map fun a => R a.data)).or (flb ((gs.take (k + 1)).any fun a => !decide (a.wire = 2)))) =
      (((Fl.all ((gs.take k).map fun a => R a.data)).or (flb ((gs.take k).any fun a => !decide (a.wire = 2)))).or (flb (!decide (gs[k].wire = 2)))).or (R gs[k].data) := by
  rw [List.take_succ_eq_append_getElem h, List.map_append, List.any_append, List.map_cons, List.map_nil, Fl.all_snoc, List.any_cons, List.any_nil, Bool.or_false, Fl.swap]
theorem list_dat (D : Fld → List Dat) {gs : List Fld} {k : Nat} (h : k < gs.length) : (gs.take (k + 1)).flatMap D = (gs.take k).flatMap D ++ D gs[k] := by
  rw [List.take_succ_eq_append_getElem h, List.flatMap_append, List.flatMap_cons, List.flatMap_nil, List.append_nil]
section
variable {w : World} {S : Nat → Prop} {fs : List Fld} {A : Option Addr} {n c : Nat}
theorem Held.fld_at (h : Held w S (datFs fs) (.slice A n c)) {k : Nat} (hk : k < fs.length) :
    ∃ b off Ad cd, A = some ⟨b, off, none⟩ ∧ S b ∧ w.cell? ⟨b, off + k * 4, none⟩ = some (.int .i64 fs[k].num) ∧ w.cell? ⟨b, off + k * 4 + 1, none⟩ = some (.int .i64 fs[k].wire) ∧
      w.cell? ⟨b, off + k * 4 + 2, none⟩ = some (.int .u64 (fs[k].x : Int)) ∧ w.cell? ⟨b, off + k * 4 + 3, none⟩ = some (.slice Ad fs[k].data.length cd) ∧ Held w S (datB fs[k].data) (.slice Ad fs[k].data.length cd) := by
  obtain ⟨A', c', e, h2, h3, h4, h5⟩ := Held.rows (f := datFd) (n := 4) (fun _ => rfl) (by omega) h
  injection e with e1 e2 e3
  subst e1
  obtain ⟨ad, us, hA, hs, hl, hc, hh⟩ := h5 k hk
  obtain ⟨ad0, us0, hA0, -, hl0, hc0, -⟩ := h5 0 (by omega)
  rw [hA] at hA0
  obtain rfl := Option.some.inj hA0
  match us, hl with
  | [u0, u1, u2, u3], _ =>
    have e0 : u0 = _ := (hh 0 (by simp [datFd]) (by simp)).leaf_eq
    have e1 : u1 = _ := (hh 1 (by simp [datFd]) (by simp)).leaf_eq
    have e2 : u2 = _ := (hh 2 (by simp [datFd]) (by simp)).leaf_eq
    have e3 : Held w S (datB fs[k].data) u3 := hh 3 (by simp [datFd]) (by simp)
    obtain ⟨b, off, spot⟩ := ad
    have hs0 : spot = none := by
      match us0, hl0 with
      | [v0, v1, v2, v3], _ => simpa [Addr.add] using World.cell?_spot (hc0 0 v0 rfl)
    subst hs0
    obtain ⟨Ad, cd, rfl, -⟩ := Held.leaves e3
    have k0 := hc 0 u0 rfl
    have k1 := hc 1 u1 rfl
    have k2 := hc 2 u2 rfl
    have k3 := hc 3 _ rfl
    simp only [Addr.add_lit] at k0 k1 k2 k3
    exact ⟨b, off, Ad, cd, hA, hs, e0 ▸ k0, e1 ▸ (by simpa [Nat.add_assoc] using k1), e2 ▸ (by simpa [Nat.add_assoc] using k2), by simpa [Nat.add_assoc] using k3, e3⟩
end

theorem HL.mono {w : World} {S S' : Nat → Prop} {ds : List Dat} {vs : List Value} (h : HL w S ds vs) (hS : ∀ b, S b → S' b) : HL w S' ds vs := by
  induction h with
  | nil => exact .nil
  | cons h1 _ ih => exact .cons (h1.mono hS) ih
theorem HL.fresh {X w' : World} {base n m : Nat} {e : TypeId} {v : Value} {ds new : List Dat} {us : List Value} (hr : HRow X base e n v m ds) (hb : base ≤ X.heap.size) (h : HL w' (Inb X.heap.size w'.heap.size) new us) : HL w' (Oth base w' v) new us :=
  h.mono fun b hb' => ⟨Nat.le_trans hb hb'.1, hb'.2, fun e => by have := (hr.lt b e).2; have := hb'.1; omega⟩
theorem RdB.row {w w' : World} {g base n m : Nat} {f : Fl} {e : TypeId} {v : Value} {ds : List Dat} (h : RdB w g f) (hr : HRow w base e n v m ds) (hlt : g < base) (hg : w.grownBy w' v.ownBlock) : RdB w' g f :=
  Blk.grown h hg fun e => by have := (hr.lt g e.symm).1; omega
section
variable {g p : Nat} {f : Fl} {S : Nat → Prop} {v : Value} {w : World} {l : List UInt8}
theorem Fl.or_z (x : Fl) : x.or fl0 = x := Fl.or_zero x
theorem tensor1_any (hk : RdB w g f) (l : List UInt8) : Calls Tryz.prog 95 #[v] w fun e w' => e = .returned (.int .i64 (0 : Int64).toInt) ∧ RdB w' g (f.or (dZero l).2) ∧ w.grownBy w' (some g) := by
  have HK := Lib.hid hk
  clear hk
  go_enter Tryz.func95, Tryz.ntmps95
  go_wp2
  go_ret
  exact ⟨rfl, HK.out.to (Fl.or_z _).symm, grown_past (Below.refl _ _) _⟩
theorem graph1_any (hk : RdB w g f) (l : List UInt8) : Calls Tryz.prog 73 #[v] w fun e w' => e = .returned (.int .i64 (0 : Int64).toInt) ∧ RdB w' g (f.or (dZero l).2) ∧ w.grownBy w' (some g) := by
  have HK := Lib.hid hk
  clear hk
  go_enter Tryz.func73, Tryz.ntmps73
  go_wp2
  go_ret
  exact ⟨rfl, HK.out.to (Fl.or_z _).symm, grown_past (Below.refl _ _) _⟩
theorem tensor2_any (hk : RdB w g f) (l : List UInt8) : Calls Tryz.prog 98 #[v] w fun e w' => e = .returned (v) ∧ RdB w' g (f.or (dRaw l).2) ∧ w.grownBy w' (some g) := by
  have HK := Lib.hid hk
  clear hk
  go_enter Tryz.func98, Tryz.ntmps98
  go_wp2
  go_ret
  exact ⟨rfl, HK.out.to (Fl.or_z _).symm, grown_past (Below.refl _ _) _⟩
set_option maxRecDepth 100000 in
theorem names1_any (hk : RdB w g f) (hp : w.cell? ⟨p, 0, none⟩ = some (.pointer (some ⟨g, 0, none⟩))) (hv : Held w S (datB l) v) (hS : ¬ S g) (hl : l.length ≤ 4194304) :
    Calls Tryz.prog 104 #[v, .pointer (some ⟨p, 0, none⟩)] w fun e w' => e = .returned (strV l) ∧ RdB w' g (f.or (dName1 l).2) ∧ w.grownBy w' (some g) := by
  obtain ⟨A, c, rfl, h2, h3, h4⟩ := hv.dv
  obtain ⟨k0, k1, k2, z0, z1, z2, hlt⟩ := hk.cells
  have HK := Lib.hid hk
  obtain ⟨q, hq⟩ : ∃ q, f.many = q := ⟨_, rfl⟩
  rw [hq] at k2
  have HQ := Lib.hid hq
  have hrun : ∀ x, (convert 28 9 (.slice A l.length c)).run Tryz.prog (w.setCell ⟨g, 2, none⟩ x).drew = .ok (strV l) (w.setCell ⟨g, 2, none⟩ x).drew := fun x => by
    obtain ⟨A', c', e, -, -, h5⟩ := (hv.setCell (p := ⟨g, 2, none⟩) hS x).drew.dv
    injection e with e1 e2 e3
    subst e1
    exact run_text rfl h5
  have HN : Hid ((dName1 l).2 = ⟨false, false, decide (256 < l.length)⟩) := Lib.hid rfl
  generalize l.length = n at *
  clear hk hq hv
  cases q
  all_goals
    by_cases hlong : 256 < n
    all_goals
      go_enter Tryz.func104, Tryz.ntmps104
      go_wp2
      go_region
      all_goals
        go_wp2
        go_ret
        rw [HN.out]
        exact ⟨rfl, ((HK.out.or2 (decide (256 < n)) (by rw [HQ.out]; simp <;> omega)).drew).to rfl, grown_drew (grown_set _ _ _ _)⟩
end
end Go.Proofs.YtlhpmlknmgocoaaGreat
