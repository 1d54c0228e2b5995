import Derived.Test.YtlhpmlknmgocoaaGreatPB1
import Derived.Deep.RegionLaw
/- The contract of pbuf.Read. -/
namespace Go.Proofs.YtlhpmlknmgocoaaGreat
set_option linter.unusedSimpArgs false
set_option linter.unusedVariables false
open Go.RowKit

theorem bcell {W w1 : World} (hb : Below W.heap.size W w1) : (∀ b o, b < W.heap.size → w1.cell? ⟨b, o, none⟩ = W.cell? ⟨b, o, none⟩) ∧ (∀ b o, b < W.heap.size → w1.frozen? ⟨b, o, none⟩ = W.frozen? ⟨b, o, none⟩) :=
  ⟨fun b o h => hb.cell (p := ⟨b, o, none⟩) h, fun b o h => hb.frozen (p := ⟨b, o, none⟩) h⟩

/-- the loop of Read -/
def RDrel (l : List UInt8) (w : World) (out p : Value) (wr : World) : Prop := ∃ fs q, p = .int .i64 (q : Nat) ∧ RD l fs q ∧ OF wr w.heap.size 108 out fs ∧ Below w.heap.size w wr
/-- what Read answers -/
def ReadR (w : World) (T : TypeId) (r : List Fld × Int) (e : Ending) (w' : World) : Prop := ∃ v, e = .returned (.tuple #[v, .int .i64 r.2]) ∧ OF w' w.heap.size T v r.1 ∧ Below w.heap.size w w'
theorem ReadR.mk {w w' : World} {T : TypeId} {r : List Fld × Int} {v : Value} {fs : List Fld} {er : Int} (h : r = (fs, er)) (ho : OF w' w.heap.size T v fs) (hb : Below w.heap.size w w') : ReadR w T r (.returned (.tuple #[v, .int .i64 er])) w' := by
  subst h; exact ⟨v, rfl, ho, hb⟩

/-- part's contract where its answer is known -/
theorem part_no {B : Nat} {A : Option Addr} {cap : Nat} {l : List UInt8} {pi wi : Int} {p wire : Nat} {w : World} (hr : Hid (part l p wire = none)) (hpi : pi = p) (hwi : wi = wire) (hp : p ≤ l.length) (hcap : l.length ≤ cap) (hm : cap ≤ maxLen) (hb : RB w B A l) (hB : B ≤ w.heap.size) (h47 : l.length ≤ 140737488355328) :
    Calls Tryz.prog 85 #[.slice A l.length cap, .int .i64 pi, .int .i64 wi] w fun e w' => ∃ A' n' c', Below w.heap.size w w' ∧ e = .returned (.tuple #[.int .u64 0, .slice A' n' c', .int .i64 0, .bool false]) := by
  subst hpi hwi
  refine (part_any B A cap l p wire w hp hcap hm hb hB h47).mono ?_
  rintro e w' ⟨v, ho, hb, rfl⟩
  rw [hr.out] at *
  obtain ⟨A', c', rfl, -⟩ := ho.form
  exact ⟨_, _, _, hb, rfl⟩
theorem part_yes {B : Nat} {A : Option Addr} {cap : Nat} {l : List UInt8} {pi wi : Int} {p wire x q : Nat} {d : List UInt8} {w : World} (hr : Hid (part l p wire = some (x, d, q))) (hpi : pi = p) (hwi : wi = wire) (hp : p ≤ l.length) (hcap : l.length ≤ cap) (hm : cap ≤ maxLen) (hb : RB w B A l) (hB : B ≤ w.heap.size) (h47 : l.length ≤ 140737488355328) :
    Calls Tryz.prog 85 #[.slice A l.length cap, .int .i64 pi, .int .i64 wi] w fun e w' => ∃ A' n' c', OB w' w.heap.size (.slice A' n' c') d ∧ Below w.heap.size w w' ∧ e = .returned (.tuple #[.int .u64 x, .slice A' n' c', .int .i64 q, .bool true]) := by
  subst hpi hwi
  refine (part_any B A cap l p wire w hp hcap hm hb hB h47).mono ?_
  rintro e w' ⟨v, ho, hb, rfl⟩
  rw [hr.out] at *
  obtain ⟨A', c', rfl, -⟩ := ho.form
  exact ⟨_, _, _, ho, hb, rfl⟩

/-- the four cells of a block just made, behind a call that keeps what was there -/
theorem four_cells {w w1 : World} {c0 c1 c2 c3 : Value} {t : TypeId} (hb : Below (w.alloc (.cells #[c0, c1, c2, c3] t)).heap.size (w.alloc (.cells #[c0, c1, c2, c3] t)) w1) :
    w1.cell? ⟨w.heap.size, 0, none⟩ = some c0 ∧ w1.cell? ⟨w.heap.size, 1, none⟩ = some c1 ∧ w1.cell? ⟨w.heap.size, 2, none⟩ = some c2 ∧ w1.cell? ⟨w.heap.size, 3, none⟩ = some c3 ∧
      w1.frozen? ⟨w.heap.size, 2, none⟩ = false ∧ w1.frozen? ⟨w.heap.size, 3, none⟩ = false ∧ w.heap.size < w1.heap.size := by
  have hk : Blk w1 w.heap.size t #[c0, c1, c2, c3] := (Blk.new w t _).below hb (by simp)
  exact ⟨hk.cell 0, hk.cell 1, hk.cell 2, hk.cell 3, hk.frozen 2, hk.frozen 3, hk.lt⟩

set_option maxRecDepth 100000 in
set_option maxHeartbeats 800000 in
theorem read_any (A : Option Addr) (cap : Nat) (l : List UInt8) (w : World) (hcap : l.length ≤ cap) (hm : cap ≤ maxLen) (hb : RB w w.heap.size A l) :
    Calls Tryz.prog 61 #[.slice A l.length cap] w (ReadR w 108 (readE l)) := by
  have hm' := hm
  unfold maxLen at hm
  by_cases hlim : 4194304 < l.length
  · have HE := Lib.hid (show readE l = ([], 8) by simp [readE, hlim])
    go_enter Tryz.func61, Tryz.ntmps61
    go_wp2
    go_step3
    go_wp2
    rw [Exit.noGoto_ret]
    go_ret2
    exact ReadR.mk HE.out (OF.nil _ _ _) (Below.refl _ _)
  go_enter Tryz.func61, Tryz.ntmps61
  go_wp2
  go_step3
  go_wp2
  go_step3
  go_wp2
  go_loopw [4, 5] (fun out p wr => RDrel l w out p wr) (fun _ p _ => l.length - (intOf p).toNat)
  case atStart => exact ⟨[], 0, rfl, RD.start l, OF.nil _ _ _, Below.refl _ _⟩
  case round =>
    obtain ⟨fs, p, rfl, hrd, hown, hbel⟩ := hrel
    have hp := hrd.1
    have hfs := hrd.2.1
    have hbr := hb.below hbel
    have hsz := hbel.size
    by_cases hlt : p = l.length
    · have HL := Lib.hid (hrd.last hlt)
      have hq : ((p : Int) == (l.length : Int)) = true := by rw [hlt]; simp
      clear hlt
      go_wp2
      rw [Exit.noGoto_ret]
      go_ret2
      have HE : readE l = (fs, 0) := by simp only [readE, if_neg hlim, HL.out]
      exact ReadR.mk HE hown hbel
    · have hq : ((p : Int) == (l.length : Int)) = false := by rw [beq_eq_false_iff_ne]; omega
      cases ht : rdv 0 (l.drop p) with
      | none =>
        have HR := Lib.hid (rvar_none hp ht)
        have HL := Lib.hid (hrd.none_ (by omega) (rdF_none ht))
        clear ht
        go_wp2_with (go_at_call 84; refine (rdvar_at HR hcap hm' hbr).mono ?_; rintro e w' ⟨rfl, rfl⟩)
        rw [Exit.noGoto_ret]
        go_ret2
        have HE : readE l = ([], 6) := by simp only [readE, if_neg hlim, HL.out]
        exact ReadR.mk HE (OF.nil _ _ _) hbel
      | some r =>
        obtain ⟨tag, n⟩ := r
        have HR := Lib.hid (rvar_some hp ht)
        have hn := rdv_len _ _ _ _ ht
        rw [List.length_drop] at hn
        by_cases hbad : tag / 8 < 1 ∨ 536870911 < tag / 8
        · have HL := Lib.hid (hrd.none_ (by omega) (rdF_bad ht hbad))
          have HT := Lib.hid (rdv_lt64 ht)
          clear ht
          by_cases h1 : tag / 8 < 1
          · have h2 : (tag : Int) / 8 < 1 := by omega
            go_wp2_with (go_at_call 84; refine (rdvar_at HR hcap hm' hbr).mono ?_; rintro e w' ⟨rfl, rfl⟩)
            rw [Exit.noGoto_ret]
            go_ret2
            have HE : readE l = ([], 6) := by simp only [readE, if_neg hlim, HL.out]
            exact ReadR.mk HE (OF.nil _ _ _) hbel
          · have h2 : 1 ≤ (tag : Int) / 8 := by omega
            have h3 : 536870911 < (tag : Int) / 8 := by omega
            go_wp2_with (go_at_call 84; refine (rdvar_at HR hcap hm' hbr).mono ?_; rintro e w' ⟨rfl, rfl⟩)
            rw [Exit.noGoto_ret]
            go_ret2
            have HE : readE l = ([], 6) := by simp only [readE, if_neg hlim, HL.out]
            exact ReadR.mk HE (OF.nil _ _ _) hbel
        · have h2 : 1 ≤ (tag : Int) / 8 := by omega
          have h3 : (tag : Int) / 8 ≤ 536870911 := by omega
          have ha := u64_and7 tag (rdv_lt64 ht)
          have HP := Lib.hid (rdF_part ht hbad)
          have HT := Lib.hid (rdv_lt64 ht)
          clear ht hbad
          cases hpr : part l (p + n) (tag % 8) with
          | none =>
            have HL := Lib.hid (hrd.none_ (by omega) (by rw [HP.out, hpr]; rfl))
            have HPR := Lib.hid hpr
            clear hpr
            go_wp2_with (first
              | (go_at_call 84; refine (rdvar_at HR hcap hm' hbr).mono ?_; rintro e w' ⟨rfl, rfl⟩)
              | (go_at_call 85; refine (part_no HPR (by omega) (by omega) (by omega) hcap hm' (hbr.alloc hsz _) (by simp; omega) (by omega)).mono ?_; rintro e w1 ⟨A1, n1, c1, hb1, rfl⟩; obtain ⟨g0, g1, g2, g3, f2, f3, gs⟩ := four_cells hb1))
            rw [Exit.noGoto_ret]
            go_ret2
            have HE : readE l = ([], 6) := by simp only [readE, if_neg hlim, HL.out]
            exact ReadR.mk HE (OF.nil _ _ _) (((hbel.alloc hsz _).trans (hb1.mono (by simp; omega))).setCell (by simp; omega) _ |>.setCell (by simp; omega) _)
          | some r =>
            obtain ⟨x, d, q⟩ := r
            have HL := Lib.hid (hrd.more (a := ⟨(tag / 8 : Nat), (tag % 8 : Nat), x, d⟩) (q := q) (by omega) (by rw [HP.out, hpr]; rfl))
            have HPR := Lib.hid hpr
            have hq := part_le (by omega) hpr
            clear hpr
            go_wp2_with (first
              | (go_at_call 84; refine (rdvar_at HR hcap hm' hbr).mono ?_; rintro e w' ⟨rfl, rfl⟩)
              | (go_at_call 85; refine (part_yes HPR (by omega) (by omega) (by omega) hcap hm' (hbr.alloc hsz _) (by simp; omega) (by omega)).mono ?_; rintro e w1 ⟨A1, n1, c1, ho1, hb1, rfl⟩; obtain ⟨g0, g1, g2, g3, f2, f3, gs⟩ := four_cells hb1)
              | (at_builtin
                 have hbw := (((Below.refl wr.heap.size wr).alloc (Nat.le_refl _) _).trans (hb1.mono (by simp))).setCell (p := ⟨wr.heap.size, 2, none⟩) (Nat.le_refl _) (.int .u64 (x : Int)) |>.setCell (p := ⟨wr.heap.size, 3, none⟩) (Nat.le_refl _) (.slice A1 n1 c1)
                 have ho2 := (ho1.setLow (p := ⟨wr.heap.size, 2, none⟩) (by simp) (.int .u64 (x : Int))).setLow (p := ⟨wr.heap.size, 3, none⟩) (by simp) (.slice A1 n1 c1)
                 go_must (refine append_field 69 108 (by kernel_rfl) info_f (by decide) rfl _ _ rfl hown hbw rfl rfl (by simp) ⟨(tag / 8 : Nat), (tag % 8 : Nat), x, d⟩ rfl rfl rfl (ho2.mono (by simp)) (by omega) hsz ?_; intro v' w' ho hg ha)))
            go_roundw
            case rel => exact ⟨_, _, rfl, HL.out, ho, grown_belowF (hown.below hbw (Nat.le_refl _)).ofd hg (by have := hbw.size; omega) (Nat.le_refl _) (hbel.trans (hbw.mono hsz))⟩
            case measure => simp [intOf]; omega
end Go.Proofs.YtlhpmlknmgocoaaGreat

/- The contract of latticeref06.one: the field at a place. -/
namespace Go.Proofs.YtlhpmlknmgocoaaGreat
open Go.RowKit

/-- what one answers -/
def OneR (w : World) (r : Option (Fld × Nat)) (e : Ending) (w' : World) : Prop := match r with
  | none => ∃ n0 n1 n2 A n c nx, Below w.heap.size w w' ∧ e = .returned (.tuple #[.agg #[.int .i64 n0, .int .i64 n1, .int .u64 n2, .slice A n c], .int .i64 nx, .bool false])
  | some (f, q) => ∃ A n c, OB w' w.heap.size (.slice A n c) f.data ∧ Below w.heap.size w w' ∧ e = .returned (.tuple #[.agg #[.int .i64 f.num, .int .i64 f.wire, .int .u64 (f.x : Int), .slice A n c], .int .i64 (q : Int), .bool true])
theorem OneR.no {w w' : World} {r : Option (Fld × Nat)} (h : r = none) (n0 n1 n2 A n c nx) (hb : Below w.heap.size w w') : OneR w r (.returned (.tuple #[.agg #[.int .i64 n0, .int .i64 n1, .int .u64 n2, .slice A n c], .int .i64 nx, .bool false])) w' := by
  subst h; exact ⟨n0, n1, n2, A, n, c, nx, hb, rfl⟩
theorem OneR.yes {w w' : World} {r : Option (Fld × Nat)} {f : Fld} {q : Nat} (h : r = some (f, q)) {n0 n1 n2 A n c nx} (hn0 : n0 = f.num) (hn1 : n1 = f.wire) (hn2 : n2 = (f.x : Int)) (hnx : nx = (q : Int)) (ho : OB w' w.heap.size (.slice A n c) f.data) (hb : Below w.heap.size w w') :
    OneR w r (.returned (.tuple #[.agg #[.int .i64 n0, .int .i64 n1, .int .u64 n2, .slice A n c], .int .i64 nx, .bool true])) w' := by
  subst h hn0 hn1 hn2 hnx; exact ⟨A, n, c, ho, hb, rfl⟩

section
variable (B : Nat) (A : Option Addr) (cap : Nat) (l : List UInt8) (p : Nat) (w : World) (hp : p ≤ l.length) (hcap : l.length ≤ cap) (hm : cap ≤ maxLen) (hb : RB w B A l) (hB : B ≤ w.heap.size) (h47 : l.length ≤ 140737488355328)
include hp hcap hm hb hB

section
variable {tag n : Nat} (ht : rdv 0 (l.drop p) = some (tag, n)) (hgood : ¬ (tag / 8 < 1 ∨ 536870911 < tag / 8))
include ht hgood

end
end
end Go.Proofs.YtlhpmlknmgocoaaGreat

/- The contract of latticeref06.Read. -/
namespace Go.Proofs.YtlhpmlknmgocoaaGreat
open Go.RowKit

end Go.Proofs.YtlhpmlknmgocoaaGreat

/- Contracts of the statements' own helpers: lent, whole, same. -/
namespace Go.Proofs.YtlhpmlknmgocoaaGreat
open Go.RowKit

/-- a call that asks at most the tape, in a region that has asked it already -/
theorem quiet_says {f : FuncId} {args : Array Value} {w : World} {b : Bool} {a n : Nat} (h : Calls Tryz.prog f args (w.drewN (a + n)) (SaysQ (w.drewN (a + n)) b)) :
    Calls Tryz.prog f args (w.drewN (a + n)) fun e w'' => e = .returned (.bool b) ∧ ∃ m, w'' = w.drewN (a + m) :=
  h.mono fun _ _ ⟨he, m, hm⟩ => ⟨he, n + m, by rw [hm, World.drewN_drewN, Nat.add_assoc]⟩
theorem quiet_says0 {f : FuncId} {args : Array Value} {w : World} {b : Bool} {n : Nat} (h : Calls Tryz.prog f args (w.drewN n) (SaysQ (w.drewN n) b)) :
    Calls Tryz.prog f args (w.drewN n) fun e w'' => e = .returned (.bool b) ∧ ∃ m, w'' = w.drewN m :=
  h.mono fun _ _ ⟨he, m, hm⟩ => ⟨he, n + m, by rw [hm, World.drewN_drewN]⟩
theorem sameb_eq {B B' : Nat} {A A' : Option Addr} {cap cap' : Nat} {a : List UInt8} {w : World} (ha : RB w B A a) (hb : RB w B' A' a) (hm : a.length ≤ maxLen) :
    Calls Tryz.prog 9 #[.slice A a.length cap, .slice A' a.length cap'] w (SaysQ w true) := by
  have h := sameb_any (max B B') A A' cap cap' a a w (ha.more (Nat.le_max_left _ _)) (hb.more (Nat.le_max_right _ _)) hm hm
  simpa using h

/-- the loop of same -/
def SMrel (fs : List Fld) (w : World) (i : Value) (wr : World) : Prop := ∃ k n : Nat, k ≤ fs.length ∧ i = .int .i64 (k : Int) ∧ wr = w.drewN n

/-- a cut from the head -/
theorem run_cut_to (w : World) (a : Option Addr) (len cap : Nat) (kh : IntKind) (h : Int) (h0 : 0 ≤ h) (h2 : h ≤ cap) :
    (Instr.slice 28 (.slice a len cap) none (some (.int kh h)) none).run Tryz.prog w = .ok (.slice a h.toNat cap) w := by
  rw [run_slice_h w _ a len cap und_bytes kh h h0 h2, size_u8]
  have hz : (a.map fun x => x.add 0) = a := by cases a <;> simp [Addr.add]
  by_cases hc : cap = 0
  · simp [Result.andThen, sliced, hc]
  · simp [Result.andThen, sliced, hc, hz]
attribute [local go_sem high] run_cut_to

end Go.Proofs.YtlhpmlknmgocoaaGreat
