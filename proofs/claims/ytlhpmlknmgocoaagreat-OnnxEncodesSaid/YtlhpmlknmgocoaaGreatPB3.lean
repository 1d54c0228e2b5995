import Derived.Test.YtlhpmlknmgocoaaGreatPB1
import Derived.Test.YtlhpmlknmgocoaaGreatPB2
import Derived.Lib.SlBytesConst
import Derived.ProofKit
import Derived.OpenShut
import Derived.ChangeOld
import Derived.SizedLaws
import Derived.Deep.Slices
import Derived.Deep.Fields
import Derived.ChangeSame
import Derived.Lib.SmallJoins
/- Contracts of may, of the program and of the document's answer. -/
namespace Go.Proofs.YtlhpmlknmgocoaaGreat
set_option linter.unusedSimpArgs false
set_option linter.unusedVariables false
open Go.RowKit
theorem dec_zero (n : Nat) : decide (n = 0) = ((n : Int) == 0) := by rw [Bool.eq_iff_iff]; simp

/-- what may answers -/
def MayRmay (w : World) (b : Bool) (e : Ending) (w' : World) : Prop := e = .returned (.bool b) ∧ Below w.heap.size w w'
section
variable (num wire : Int) (x n cap : Nat) (A : Option Addr) (w : World)
set_option maxHeartbeats 1600000 in
theorem may_any (hx : x < 18446744073709551616) : Calls Tryz.prog 54 #[.agg #[.int .i64 num, .int .i64 wire, .int .u64 x, .slice A n cap]] w (MayRmay w (mayN num wire x n)) := by
  have HX := Lib.hid hx
  clear hx
  by_cases h1 : num < 1
  · have HM := Lib.hid (show mayN num wire x n = false by simp [mayN]; intros; omega)
    go_enter Tryz.func54, Tryz.ntmps54
    go_wp2
    go_ret
    exact ⟨by rw [HM.out]; rfl, (Below.refl _ _).alloc (Nat.le_refl _) _⟩
  by_cases h2 : 536870911 < num
  · have HM := Lib.hid (show mayN num wire x n = false by simp [mayN]; intros; omega)
    go_enter Tryz.func54, Tryz.ntmps54
    go_wp2
    go_ret
    exact ⟨by rw [HM.out]; rfl, (Below.refl _ _).alloc (Nat.le_refl _) _⟩
  have hg : decide (1 ≤ num) = true := by simp; omega
  have hg' : decide (num ≤ 536870911) = true := by simp; omega
  by_cases w0 : wire = 0
  · subst w0
    have HM := Lib.hid (show mayN num 0 x n = ((n : Int) == 0) by simp [mayN, hg, hg', dec_zero])
    clear hg hg'
    go_enter Tryz.func54, Tryz.ntmps54
    go_wp2
    go_ret
    exact ⟨by rw [HM.out]; rfl, (Below.refl _ _).alloc (Nat.le_refl _) _⟩
  by_cases w1 : wire = 1
  · subst w1
    have HM := Lib.hid (show mayN num 1 x n = ((n : Int) == 0) by simp [mayN, hg, hg', dec_zero])
    clear hg hg' w0
    go_enter Tryz.func54, Tryz.ntmps54
    go_wp2
    go_ret
    exact ⟨by rw [HM.out]; rfl, (Below.refl _ _).alloc (Nat.le_refl _) _⟩
  have b0 : (wire == 0) = false := by simpa using w0
  have b1 : (wire == 1) = false := by simpa using w1
  by_cases w5 : wire = 5
  · subst w5
    by_cases hn : n = 0
    · subst hn
      by_cases hx : x < 4294967296
      · have HM := Lib.hid (show mayN num 5 x 0 = true by simp [mayN, hg, hg', hx])
        have hq : ((x : Int) / 4294967296 == 0) = true := by rw [beq_iff_eq]; omega
        have hq' : (x : Int) < 4294967296 := by omega
        clear hg hg' w0 w1 b0 b1
        go_enter Tryz.func54, Tryz.ntmps54
        go_wp2
        go_ret
        exact ⟨by rw [HM.out]; first | rfl | simp [hq], (Below.refl _ _).alloc (Nat.le_refl _) _⟩
      · have HM := Lib.hid (show mayN num 5 x 0 = false by simp [mayN, hg, hg', hx])
        have hq : ((x : Int) / 4294967296 == 0) = false := by rw [beq_eq_false_iff_ne]; omega
        have hq' : ¬ (x : Int) < 4294967296 := by omega
        clear hg hg' w0 w1 b0 b1
        go_enter Tryz.func54, Tryz.ntmps54
        go_wp2
        go_ret
        exact ⟨by rw [HM.out]; first | rfl | simp [hq], (Below.refl _ _).alloc (Nat.le_refl _) _⟩
    · have HM := Lib.hid (show mayN num 5 x n = false by simp [mayN, hg, hg', hn])
      have hq : ((n : Int) == 0) = false := by rw [beq_eq_false_iff_ne]; omega
      clear hg hg' w0 w1 b0 b1
      go_enter Tryz.func54, Tryz.ntmps54
      go_wp2
      go_ret
      exact ⟨by rw [HM.out]; rfl, (Below.refl _ _).alloc (Nat.le_refl _) _⟩
  have b5 : (wire == 5) = false := by simpa using w5
  by_cases w2 : wire = 2
  · subst w2
    have HM := Lib.hid (show mayN num 2 x n = ((x : Int) == 0) by simp [mayN, hg, hg', dec_zero])
    clear hg hg' w0 w1 b0 b1 b5 w5
    go_enter Tryz.func54, Tryz.ntmps54
    go_wp2
    go_ret
    exact ⟨by rw [HM.out]; rfl, (Below.refl _ _).alloc (Nat.le_refl _) _⟩
  have b2 : (wire == 2) = false := by simpa using w2
  have HM := Lib.hid (show mayN num wire x n = false by simp [mayN, w0, w1, w5, w2])
  clear hg hg' w0 w1 w2 w5
  go_enter Tryz.func54, Tryz.ntmps54
  go_wp2
  go_ret
  exact ⟨by rw [HM.out]; rfl, (Below.refl _ _).alloc (Nat.le_refl _) _⟩
end

/-- what may answers -/
def MayRrmay (w : World) (b : Bool) (e : Ending) (w' : World) : Prop := e = .returned (.bool b) ∧ Below w.heap.size w w'
section
variable (num wire : Int) (x n cap : Nat) (A : Option Addr) (w : World)
end
end Go.Proofs.YtlhpmlknmgocoaaGreat

/- The contract of pbuf.Write. -/
namespace Go.Proofs.YtlhpmlknmgocoaaGreat
open Go.RowKit

/-- what Write answers -/
def WriteR (w : World) (r : List UInt8 × Int) (e : Ending) (w' : World) : Prop := ∃ v, e = .returned (.tuple #[v, .int .i64 r.2]) ∧ OB w' w.heap.size v r.1 ∧ Below w.heap.size w w'
theorem WriteR.mk {w w' : World} {r : List UInt8 × Int} {v : Value} {l : List UInt8} {er : Int} (h : r = (l, er)) (ho : OB w' w.heap.size v l) (hb : Below w.heap.size w w') : WriteR w r (.returned (.tuple #[v, .int .i64 er])) w' := by
  subst h; exact ⟨v, rfl, ho, hb⟩

/-- the first loop of Write: all may be written -/
def WArel (fs : List Fld) (w : World) (i : Value) (wr : World) : Prop := ∃ k : Nat, k ≤ fs.length ∧ i = .int .i64 (k : Int) ∧ (∀ j (h : j < fs.length), j < k → mayF fs[j] = true) ∧ Below w.heap.size w wr
/-- the second one: what has been written -/
def WBrel (fs : List Fld) (w : World) (i out : Value) (w1 : World) : Prop := ∃ k : Nat, k ≤ fs.length ∧ i = .int .i64 (k : Int) ∧ (wr (fs.take k)).length ≤ 4194304 ∧ OB w1 w.heap.size out (wr (fs.take k)) ∧ Below w.heap.size w w1

theorem may_at {num wire : Int} {x n cap : Nat} {A : Option Addr} {w : World} {b : Bool} (h : Hid (mayN num wire x n = b)) (hx : Hid (x < 18446744073709551616)) :
    Calls Tryz.prog 54 #[.agg #[.int .i64 num, .int .i64 wire, .int .u64 x, .slice A n cap]] w fun e w' => e = .returned (.bool b) ∧ Below w.heap.size w w' := by
  have h1 := may_any num wire x n cap A w hx.out
  rw [h.out] at h1
  exact h1
theorem varint_at (n : Nat) {t : Int} {w : World} (ht : t = n) (hn : n < 18446744073709551616) : Calls Tryz.prog 55 #[.int .u64 t] w (MadeB w (vi n)) := by
  subst ht; exact varint_any n hn w
/-- all numbers X fit 64 bits -/
def Wf64 (fs : List Fld) : Prop := ∀ f ∈ fs, f.x < 18446744073709551616 ∧ f.data.length ≤ 140737488351232

set_option maxRecDepth 100000 in
set_option maxHeartbeats 1600000 in
theorem write_any (A : Option Addr) (cap : Nat) (fs : List Fld) (w : World) (hm : cap ≤ maxLen) (hcap : fs.length ≤ cap) (hb : RF w w.heap.size A fs) (hwf : Wf64 fs) :
    Calls Tryz.prog 28 #[.slice A fs.length cap] w (WriteR w (writeE fs)) := by
  unfold maxLen at hm
  go_enter Tryz.func28, Tryz.ntmps28
  go_wp2
  go_loopw [11] (fun i wr => WArel fs w i wr) (fun i _ => fs.length - (intOf i).toNat)
  case atStart => exact ⟨0, Nat.zero_le _, rfl, fun _ _ h => absurd h (Nat.not_lt_zero _), Below.refl _ _⟩
  case round =>
    obtain ⟨k, hk, rfl, hall, hbel⟩ := hrel
    by_cases hlt : k < fs.length
    · have hbr := hb.below hbel
      have hsz := hbel.size
      obtain ⟨b, off, dv, rfl, hbb, hdv, a0, a1, a2, a3⟩ := hbr.at_ hlt
      have HX := Lib.hid (hwf fs[k] (List.getElem_mem hlt)).1
      obtain ⟨Ad, cd, rfl, hld, hmd, hrd⟩ := hdv
      cases hmay : mayF fs[k] with
      | false =>
        have HM : Hid (mayN fs[k].num fs[k].wire fs[k].x fs[k].data.length = false) := hmay
        have HE := Lib.hid (show writeE fs = ([], 1) by
          unfold writeE
          rw [if_neg]
          intro h
          rw [List.all_eq_true] at h
          have := h _ (List.getElem_mem hlt)
          rw [hmay] at this; cases this)
        clear hmay hall
        generalize fs[k] = f at *
        obtain ⟨num, wire, x, data⟩ := f
        go_wp2_with (go_at_call 54; go_must (refine (may_at HM HX).mono ?_); rintro e w1 ⟨rfl, hb1⟩)
        go_ret2
        exact WriteR.mk HE.out (OB.nil _ _) ((hbel.alloc hsz _).trans (hb1.mono (by simp; omega)))
      | true =>
        have HM : Hid (mayN fs[k].num fs[k].wire fs[k].x fs[k].data.length = true) := hmay
        have HA := Lib.hid (show ∀ j (h : j < fs.length), j < k + 1 → mayF fs[j] = true from fun j h hj => by
          by_cases e : j = k
          · subst e; exact hmay
          · exact hall j h (by omega))
        clear hmay hall
        generalize fs[k] = f at *
        obtain ⟨num, wire, x, data⟩ := f
        go_wp2_with (go_at_call 54; go_must (refine (may_at HM HX).mono ?_); rintro e w1 ⟨rfl, hb1⟩)
        go_roundw
        case rel => exact ⟨k + 1, by omega, by go_num, HA.out, (hbel.alloc hsz _).trans (hb1.mono (by simp; omega))⟩
        case measure => simp [intOf]; omega
    · have HA := Lib.hid (show ∀ f ∈ fs, mayF f = true from fun f hf => by
        obtain ⟨j, hj, rfl⟩ := List.getElem_of_mem hf
        exact hall j hj (by omega))
      clear hall
      go_wp2
      go_loopw [6, 21] (fun out i wr => WBrel fs w i out wr) (fun _ i _ => fs.length - (intOf i).toNat)
      case atStart => exact ⟨0, Nat.zero_le _, rfl, by simp [Go.Proofs.YtlhpmlknmgocoaaGreat.wr], OB.nil _ _, hbel⟩
      case round =>
        clear hbel
        obtain ⟨k, hk, rfl, hlen, hown, hbel⟩ := hrel
        have hsz := hbel.size
        by_cases hlt : k < fs.length
        · skip
          obtain ⟨b, off, dv, rfl, hbb, hdv, a0', a1', a2', a3'⟩ := hb.at_ hlt
          have a0 := (hbel.cell (p := ⟨b, _, none⟩) hbb).trans a0'
          have a1 := (hbel.cell (p := ⟨b, _, none⟩) hbb).trans a1'
          have a2 := (hbel.cell (p := ⟨b, _, none⟩) hbb).trans a2'
          have a3 := (hbel.cell (p := ⟨b, _, none⟩) hbb).trans a3'
          clear a0' a1' a2' a3'
          have HX := Lib.hid (hwf fs[k] (List.getElem_mem hlt)).1
          have hdl := (hwf fs[k] (List.getElem_mem hlt)).2
          have HT := Lib.hid (wr_take fs k hlt)
          have HL := Lib.hid (wr_take_le fs (k + 1))
          have HF := Lib.hid (wr_take_le fs k)
          obtain ⟨m, hnum, hm1, hm2, hcase⟩ := mayF_cases (HA.out fs[k] (List.getElem_mem hlt))
          have HW := Lib.hid (show wrF fs[k] = _ from rfl)
          obtain ⟨Ad, cd, rfl, hld, hmd, hrd⟩ := hdv
          generalize fs[k] = f at *
          obtain ⟨num, wire, x, data⟩ := f
          dsimp only at *
          subst hnum
          rcases hcase with ⟨rfl, rfl⟩ | ⟨rfl, rfl⟩ | ⟨rfl, rfl, hx32⟩ | ⟨rfl, rfl⟩
          · have HM : Hid (wrF ⟨m, 0, x, []⟩ = vi (m * 8 + 0) ++ vi x) := by show _ = _; simp [wrF]
            go_wp2_with fail
            refine (varint_at (m * 8 + 0) (or8 m 0 (by decide) hm2) (by omega)).mono ?_
            rintro e w1 ⟨v1, rfl, ho1, hb1⟩
            obtain ⟨A1, n1, c1, rfl, hn1, hl1, hq1, hr1⟩ := ho1.form2
            have hk1 := (Blk.new wr 108 #[.int .i64 m, .int .i64 0, .int .u64 x, .slice Ad 0 cd]).below hb1 (by simp)
            have hown1 := OB.below (hown.alloc (.cells #[.int .i64 m, .int .i64 0, .int .u64 x, .slice Ad 0 cd] 108)) hb1 (Nat.le_refl _)
            have hbel1 := (hbel.alloc hsz (.cells #[.int .i64 m, .int .i64 0, .int .u64 x, .slice Ad 0 cd] 108)).trans (hb1.mono (by simp; omega))
            have hz1 := hbel1.size
            have hv1 := vi_len (m * 8 + 0)
            go_wp2_with (at_builtin
                         go_must (refine append_bytes rfl _ _ rfl hown1 rfl (vi (m * 8 + 0)) rfl hn1.out hr1 (by omega) hz1 ?_; intro v2 w2 ho2 hg2 ha2)
                         have hk2 := hk1.grown hg2 (own_blk_ne hown1 hk1 (by decide)).symm
                         obtain ⟨g0, g1, g2, g3⟩ := blk4 hk2
                         obtain ⟨A2, n2, c2, rfl, hn2, hl2, hq2, hr2⟩ := ho2.form2
                         have hbel2 := grown_below hown1 hg2 hz1 (Nat.le_refl _) hbel1
                         have hz2 := hbel2.size)
            refine (varint_at x rfl HX.out).mono ?_
            rintro e w3 ⟨v3, rfl, ho3, hb3⟩
            obtain ⟨A3, n3, c3, rfl, hn3, hl3, hq3, hr3⟩ := ho3.form2
            have hown3 := OB.below ho2 hb3 (Nat.le_refl _)
            have hbel3 := hbel2.trans (hb3.mono hz2)
            have hz3 := hbel3.size
            have hv3 := vi_len x
            go_wp2_with (at_builtin
                         go_must (refine append_bytes rfl _ _ rfl hown3 rfl (vi x) rfl hn3.out hr3 (by rw [List.length_append]; omega) hz3 ?_; intro v4 w4 ho4 hg4 ha4)
                         obtain ⟨A4, n4, c4, rfl, hn4, hl4, hq4, hr4⟩ := ho4.form2
                         have hbel4 := grown_below hown3 hg4 hz3 (Nat.le_refl _) hbel3)
            · have hbig : 4194304 < (n4 : Int) := by assumption
              have hw4 : Go.Proofs.YtlhpmlknmgocoaaGreat.wr (fs.take (k + 1)) = Go.Proofs.YtlhpmlknmgocoaaGreat.wr (fs.take k) ++ vi (m * 8 + 0) ++ vi x := by rw [HT.out, HM.out]; simp
              have HE : writeE fs = ([], 8) := by
                unfold writeE
                rw [if_pos (List.all_eq_true.2 HA.out), if_pos]
                have h1 := HL.out; have h2 := hn4.out; rw [hw4] at h1; omega
              go_ret2
              exact WriteR.mk HE (OB.nil _ _) (hbel4)
            · have hw4 : Go.Proofs.YtlhpmlknmgocoaaGreat.wr (fs.take (k + 1)) = Go.Proofs.YtlhpmlknmgocoaaGreat.wr (fs.take k) ++ vi (m * 8 + 0) ++ vi x := by rw [HT.out, HM.out]; simp
              have hsm : (n4 : Int) ≤ 4194304 := by assumption
              go_roundw
              case rel => exact ⟨k + 1, by omega, by go_num, by rw [hw4]; have := hn4.out; omega, by rw [hw4]; exact ho4, hbel4⟩
              case measure => simp [intOf]; omega
          · have HM : Hid (wrF ⟨m, 1, x, []⟩ = vi (m * 8 + 1) ++ fix8 x 8) := by show _ = _; simp [wrF]
            go_wp2_with fail
            refine (varint_at (m * 8 + 1) (or8 m 1 (by decide) hm2) (by omega)).mono ?_
            rintro e w1 ⟨v1, rfl, ho1, hb1⟩
            obtain ⟨A1, n1, c1, rfl, hn1, hl1, hq1, hr1⟩ := ho1.form2
            have hk1 := (Blk.new wr 108 #[.int .i64 m, .int .i64 1, .int .u64 x, .slice Ad 0 cd]).below hb1 (by simp)
            have hown1 := OB.below (hown.alloc (.cells #[.int .i64 m, .int .i64 1, .int .u64 x, .slice Ad 0 cd] 108)) hb1 (Nat.le_refl _)
            have hbel1 := (hbel.alloc hsz (.cells #[.int .i64 m, .int .i64 1, .int .u64 x, .slice Ad 0 cd] 108)).trans (hb1.mono (by simp; omega))
            have hz1 := hbel1.size
            have hv1 := vi_len (m * 8 + 1)
            go_wp2_with (at_builtin
                         go_must (refine append_bytes rfl _ _ rfl hown1 rfl (vi (m * 8 + 1)) rfl hn1.out hr1 (by omega) hz1 ?_; intro v2 w2 ho2 hg2 ha2)
                         have hk2 := hk1.grown hg2 (own_blk_ne hown1 hk1 (by decide)).symm
                         obtain ⟨g0, g1, g2, g3⟩ := blk4 hk2
                         obtain ⟨A2, n2, c2, rfl, hn2, hl2, hq2, hr2⟩ := ho2.form2
                         have hbel2 := grown_below hown1 hg2 hz1 (Nat.le_refl _) hbel1
                         have hz2 := hbel2.size)
            refine (fixed_any x 8 (by omega) w2).mono ?_
            rintro e w3 ⟨v3, rfl, ho3, hb3⟩
            obtain ⟨A3, n3, c3, rfl, hn3, hl3, hq3, hr3⟩ := ho3.form2
            have hown3 := OB.below ho2 hb3 (Nat.le_refl _)
            have hbel3 := hbel2.trans (hb3.mono hz2)
            have hz3 := hbel3.size
            have hv3 := fix8_len x 8
            go_wp2_with (at_builtin
                         go_must (refine append_bytes rfl _ _ rfl hown3 rfl (fix8 x 8) rfl hn3.out hr3 (by rw [List.length_append]; omega) hz3 ?_; intro v4 w4 ho4 hg4 ha4)
                         obtain ⟨A4, n4, c4, rfl, hn4, hl4, hq4, hr4⟩ := ho4.form2
                         have hbel4 := grown_below hown3 hg4 hz3 (Nat.le_refl _) hbel3)
            · have hbig : 4194304 < (n4 : Int) := by assumption
              have hw4 : Go.Proofs.YtlhpmlknmgocoaaGreat.wr (fs.take (k + 1)) = Go.Proofs.YtlhpmlknmgocoaaGreat.wr (fs.take k) ++ vi (m * 8 + 1) ++ fix8 x 8 := by rw [HT.out, HM.out]; simp
              have HE : writeE fs = ([], 8) := by
                unfold writeE
                rw [if_pos (List.all_eq_true.2 HA.out), if_pos]
                have h1 := HL.out; have h2 := hn4.out; rw [hw4] at h1; omega
              go_ret2
              exact WriteR.mk HE (OB.nil _ _) (hbel4)
            · have hw4 : Go.Proofs.YtlhpmlknmgocoaaGreat.wr (fs.take (k + 1)) = Go.Proofs.YtlhpmlknmgocoaaGreat.wr (fs.take k) ++ vi (m * 8 + 1) ++ fix8 x 8 := by rw [HT.out, HM.out]; simp
              have hsm : (n4 : Int) ≤ 4194304 := by assumption
              go_roundw
              case rel => exact ⟨k + 1, by omega, by go_num, by rw [hw4]; have := hn4.out; omega, by rw [hw4]; exact ho4, hbel4⟩
              case measure => simp [intOf]; omega
          · have HM : Hid (wrF ⟨m, 5, x, []⟩ = vi (m * 8 + 5) ++ fix8 x 4) := by show _ = _; simp [wrF]
            go_wp2_with fail
            refine (varint_at (m * 8 + 5) (or8 m 5 (by decide) hm2) (by omega)).mono ?_
            rintro e w1 ⟨v1, rfl, ho1, hb1⟩
            obtain ⟨A1, n1, c1, rfl, hn1, hl1, hq1, hr1⟩ := ho1.form2
            have hk1 := (Blk.new wr 108 #[.int .i64 m, .int .i64 5, .int .u64 x, .slice Ad 0 cd]).below hb1 (by simp)
            have hown1 := OB.below (hown.alloc (.cells #[.int .i64 m, .int .i64 5, .int .u64 x, .slice Ad 0 cd] 108)) hb1 (Nat.le_refl _)
            have hbel1 := (hbel.alloc hsz (.cells #[.int .i64 m, .int .i64 5, .int .u64 x, .slice Ad 0 cd] 108)).trans (hb1.mono (by simp; omega))
            have hz1 := hbel1.size
            have hv1 := vi_len (m * 8 + 5)
            go_wp2_with (at_builtin
                         go_must (refine append_bytes rfl _ _ rfl hown1 rfl (vi (m * 8 + 5)) rfl hn1.out hr1 (by omega) hz1 ?_; intro v2 w2 ho2 hg2 ha2)
                         have hk2 := hk1.grown hg2 (own_blk_ne hown1 hk1 (by decide)).symm
                         obtain ⟨g0, g1, g2, g3⟩ := blk4 hk2
                         obtain ⟨A2, n2, c2, rfl, hn2, hl2, hq2, hr2⟩ := ho2.form2
                         have hbel2 := grown_below hown1 hg2 hz1 (Nat.le_refl _) hbel1
                         have hz2 := hbel2.size)
            refine (fixed_any x 4 (by omega) w2).mono ?_
            rintro e w3 ⟨v3, rfl, ho3, hb3⟩
            obtain ⟨A3, n3, c3, rfl, hn3, hl3, hq3, hr3⟩ := ho3.form2
            have hown3 := OB.below ho2 hb3 (Nat.le_refl _)
            have hbel3 := hbel2.trans (hb3.mono hz2)
            have hz3 := hbel3.size
            have hv3 := fix8_len x 4
            go_wp2_with (at_builtin
                         go_must (refine append_bytes rfl _ _ rfl hown3 rfl (fix8 x 4) rfl hn3.out hr3 (by rw [List.length_append]; omega) hz3 ?_; intro v4 w4 ho4 hg4 ha4)
                         obtain ⟨A4, n4, c4, rfl, hn4, hl4, hq4, hr4⟩ := ho4.form2
                         have hbel4 := grown_below hown3 hg4 hz3 (Nat.le_refl _) hbel3)
            · have hbig : 4194304 < (n4 : Int) := by assumption
              have hw4 : Go.Proofs.YtlhpmlknmgocoaaGreat.wr (fs.take (k + 1)) = Go.Proofs.YtlhpmlknmgocoaaGreat.wr (fs.take k) ++ vi (m * 8 + 5) ++ fix8 x 4 := by rw [HT.out, HM.out]; simp
              have HE : writeE fs = ([], 8) := by
                unfold writeE
                rw [if_pos (List.all_eq_true.2 HA.out), if_pos]
                have h1 := HL.out; have h2 := hn4.out; rw [hw4] at h1; omega
              go_ret2
              exact WriteR.mk HE (OB.nil _ _) (hbel4)
            · have hw4 : Go.Proofs.YtlhpmlknmgocoaaGreat.wr (fs.take (k + 1)) = Go.Proofs.YtlhpmlknmgocoaaGreat.wr (fs.take k) ++ vi (m * 8 + 5) ++ fix8 x 4 := by rw [HT.out, HM.out]; simp
              have hsm : (n4 : Int) ≤ 4194304 := by assumption
              go_roundw
              case rel => exact ⟨k + 1, by omega, by go_num, by rw [hw4]; have := hn4.out; omega, by rw [hw4]; exact ho4, hbel4⟩
              case measure => simp [intOf]; omega
          · have HM : Hid (wrF ⟨m, 2, 0, data⟩ = vi (m * 8 + 2) ++ (vi data.length ++ data)) := by show _ = _; simp [wrF]
            go_wp2_with fail
            refine (varint_at (m * 8 + 2) (or8 m 2 (by decide) hm2) (by omega)).mono ?_
            rintro e w1 ⟨v1, rfl, ho1, hb1⟩
            obtain ⟨A1, n1, c1, rfl, hn1, hl1, hq1, hr1⟩ := ho1.form2
            have hk1 := (Blk.new wr 108 #[.int .i64 m, .int .i64 2, .int .u64 0, .slice Ad data.length cd]).below hb1 (by simp)
            have hown1 := OB.below (hown.alloc (.cells #[.int .i64 m, .int .i64 2, .int .u64 0, .slice Ad data.length cd] 108)) hb1 (Nat.le_refl _)
            have hbel1 := (hbel.alloc hsz (.cells #[.int .i64 m, .int .i64 2, .int .u64 0, .slice Ad data.length cd] 108)).trans (hb1.mono (by simp; omega))
            have hz1 := hbel1.size
            have hv1 := vi_len (m * 8 + 2)
            go_wp2_with (at_builtin
                         go_must (refine append_bytes rfl _ _ rfl hown1 rfl (vi (m * 8 + 2)) rfl hn1.out hr1 (by omega) hz1 ?_; intro v2 w2 ho2 hg2 ha2)
                         have hk2 := hk1.grown hg2 (own_blk_ne hown1 hk1 (by decide)).symm
                         obtain ⟨g0, g1, g2, g3⟩ := blk4 hk2
                         obtain ⟨A2, n2, c2, rfl, hn2, hl2, hq2, hr2⟩ := ho2.form2
                         have hbel2 := grown_below hown1 hg2 hz1 (Nat.le_refl _) hbel1
                         have hz2 := hbel2.size)
            refine (varint_at data.length rfl (by omega)).mono ?_
            rintro e w3 ⟨v3, rfl, ho3, hb3⟩
            obtain ⟨A3, n3, c3, rfl, hn3, hl3, hq3, hr3⟩ := ho3.form2
            have hown3 := OB.below ho2 hb3 (Nat.le_refl _)
            have hk3 := hk2.below hb3 hk2.lt
            have hbel3 := hbel2.trans (hb3.mono hz2)
            have hz3 := hbel3.size
            have hv3 := vi_len data.length
            go_wp2_with (first
              | (at_builtin
                 refine append_bytes rfl _ _ rfl hown3 rfl (vi data.length) rfl hn3.out hr3 (by rw [List.length_append]; omega) hz3 ?_; intro v4 w4 ho4 hg4 ha4
                 obtain ⟨A4, n4, c4, rfl, hn4, hl4, hq4, hr4⟩ := ho4.form2
                 have hk4 := hk3.grown hg4 (own_blk_ne hown3 hk3 (by decide)).symm
                 obtain ⟨k0, k1, k2, k3⟩ := blk4 hk4
                 have hbel4 := grown_below hown3 hg4 hz3 (Nat.le_refl _) hbel3
                 have hz4 := hbel4.size)
              | (at_builtin
                 have hrd4 := hrd.below hbel4
                 go_must (refine append_bytes rfl _ _ rfl ho4 rfl data rfl rfl hrd4 (by rw [List.length_append, List.length_append]; omega) hz4 ?_; intro v5 w5 ho5 hg5 ha5)
                 obtain ⟨A5, n5, c5, rfl, hn5, hl5, hq5, hr5⟩ := ho5.form2
                 have hbel5 := grown_below ho4 hg5 hz4 (Nat.le_refl _) hbel4))
            · have hbig : 4194304 < (n5 : Int) := by assumption
              have hw4 : Go.Proofs.YtlhpmlknmgocoaaGreat.wr (fs.take (k + 1)) = Go.Proofs.YtlhpmlknmgocoaaGreat.wr (fs.take k) ++ vi (m * 8 + 2) ++ vi data.length ++ data := by rw [HT.out, HM.out]; simp
              have HE : writeE fs = ([], 8) := by
                unfold writeE
                rw [if_pos (List.all_eq_true.2 HA.out), if_pos]
                have h1 := HL.out; have h2 := hn5.out; rw [hw4] at h1; omega
              go_ret2
              exact WriteR.mk HE (OB.nil _ _) (hbel5)
            · have hw4 : Go.Proofs.YtlhpmlknmgocoaaGreat.wr (fs.take (k + 1)) = Go.Proofs.YtlhpmlknmgocoaaGreat.wr (fs.take k) ++ vi (m * 8 + 2) ++ vi data.length ++ data := by rw [HT.out, HM.out]; simp
              have hsm : (n5 : Int) ≤ 4194304 := by assumption
              go_roundw
              case rel => exact ⟨k + 1, by omega, by go_num, by rw [hw4]; have := hn5.out; omega, by rw [hw4]; exact ho5, hbel5⟩
              case measure => simp [intOf]; omega
        · have hk' : k = fs.length := by omega
          subst hk'
          have HE : writeE fs = (Go.Proofs.YtlhpmlknmgocoaaGreat.wr fs, 0) := by
            unfold writeE
            rw [List.take_length] at hlen
            rw [if_pos (List.all_eq_true.2 HA.out), if_neg (by omega)]
          rw [List.take_length] at hown
          have HEE := Lib.hid HE
          clear HE
          go_wp2
          go_ret2
          exact WriteR.mk HEE.out hown hbel
end Go.Proofs.YtlhpmlknmgocoaaGreat

/- The contract of latticeref06.Write. -/
namespace Go.Proofs.YtlhpmlknmgocoaaGreat
open Go.RowKit
theorem rvarint_at (n : Nat) {t : Int} {w : World} (ht : t = n) (hn : n < 18446744073709551616) : Calls Tryz.prog 43 #[.int .u64 t] w (MadeB w (vi n)) := by
  subst ht; exact rvarint_any n hn w

end Go.Proofs.YtlhpmlknmgocoaaGreat

/- Plain laws of layer 6: what is written is read. No program in sight. -/
namespace Go.Proofs.YtlhpmlknmgocoaaGreat

theorem rdv_vif (t : List UInt8) : ∀ (f x : Nat), f ≤ 9 → x * 128 ^ (9 - f) < 18446744073709551616 → rdv (9 - f) (vif f x ++ t) = some (x, (vif f x).length) := by
  intro f
  induction f with
  | zero =>
    intro x _ hx
    have h9 : 128 ^ 9 = 9223372036854775808 := by decide
    rw [Nat.sub_zero, h9] at hx
    have h1 : (UInt8.ofNat x).toNat = x := by simp; omega
    simp only [vif, List.cons_append, List.nil_append, rdv, h1]
    rw [if_neg (by omega), if_pos (by omega)]
    simp
  | succ f ih =>
    intro x hf hx
    have hi : ¬ (9 - (f + 1) = 9) := by omega
    by_cases h : x < 128
    · have h1 : (UInt8.ofNat x).toNat = x := by simp; omega
      simp only [vif, h, if_true, List.cons_append, List.nil_append, rdv, h1]
      rw [if_neg (fun hh => hi hh.1)]
      simp
    · have h1 : (UInt8.ofNat (x % 128 + 128)).toNat = x % 128 + 128 := by simp; omega
      simp only [vif, h, if_false, List.cons_append, rdv, h1]
      rw [if_neg (fun hh => hi hh.1), if_neg (by omega), show 9 - (f + 1) + 1 = 9 - f by omega]
      have hle : x / 128 * 128 ≤ x := Nat.div_mul_le_self x 128
      rw [ih (x / 128) (by omega) (by
        have h2 : x / 128 * 128 * 128 ^ (9 - (f + 1)) ≤ x * 128 ^ (9 - (f + 1)) := Nat.mul_le_mul_right _ hle
        rw [show 9 - f = 9 - (f + 1) + 1 by omega, Nat.pow_succ, Nat.mul_comm (128 ^ _), ← Nat.mul_assoc]; omega)]
      simp only [Option.map_some, Option.some.injEq, Prod.mk.injEq, List.length_cons, and_true]
      omega

theorem rdv_vi (x : Nat) (t : List UInt8) (h : x < 18446744073709551616) : rdv 0 (vi x ++ t) = some (x, (vi x).length) := by
  exact rdv_vif t 9 x (by omega) (by simpa using h)

theorem rvar_vi (x : Nat) (h : x < 18446744073709551616) : rvar (vi x) (0 : Int) = (x, ((vi x).length : Int), 0) := by
  have h1 := rdv_vi x [] h
  rw [List.append_nil] at h1
  have := rvar_some (l := vi x) (q := 0) (x := x) (n := (vi x).length) (Nat.zero_le _) (by simpa using h1)
  simpa using this
theorem rda_len (l : List UInt8) : ∀ f p fs, p ≤ l.length → rda f l p = some fs → fs.length + p ≤ l.length := by
  intro f
  induction f with
  | zero => intro p fs _ h; simp [rda] at h
  | succ f ih =>
    intro p fs hp h
    unfold rda at h
    split at h
    · simp only [Option.some.injEq] at h; subst h; simpa using hp
    · split at h
      · cases h
      · rename_i a q hq
        simp only [Option.map_eq_some_iff] at h
        obtain ⟨r, hr, rfl⟩ := h
        have h1 := rdF_le hp hq
        have := ih q r h1.2 hr
        simp only [List.length_cons]; omega
theorem readE_len (l : List UInt8) : (readE l).1.length ≤ 4194304 := by
  unfold readE
  split
  · simp
  · split
    · simp
    · rename_i h fs hfs
      have := rda_len l _ 0 fs (Nat.zero_le _) hfs
      simp only; omega
theorem part_data {l : List UInt8} {p wire x q : Nat} {d : List UInt8} (h : part l p wire = some (x, d, q)) : d.length ≤ l.length := by
  unfold part at h
  split at h
  · simp only [Option.map_eq_some_iff, Prod.mk.injEq] at h
    obtain ⟨r, hr, -, h3, -⟩ := h
    rw [← h3]; simp
  · split at h
    · split at h
      · simp only [Option.some.injEq, Prod.mk.injEq] at h; rw [← h.2.1]; simp
      · cases h
    · split at h
      · split at h
        · simp only [Option.some.injEq, Prod.mk.injEq] at h; rw [← h.2.1]; simp
        · cases h
      · split at h
        · simp only [Option.bind_eq_some_iff] at h
          obtain ⟨r, hr, h⟩ := h
          split at h
          · simp only [Option.some.injEq, Prod.mk.injEq] at h
            rw [← h.2.1, List.length_take, List.length_drop]; omega
          · cases h
        · cases h
theorem rdF_data {l : List UInt8} {p q : Nat} {f : Fld} (h : rdF l p = some (f, q)) : f.data.length ≤ l.length := by
  unfold rdF at h
  split at h
  · cases h
  · split at h
    · cases h
    · simp only [Option.map_eq_some_iff, Prod.mk.injEq] at h
      obtain ⟨r, hr, h1, -⟩ := h
      rw [← h1]
      exact part_data (x := r.1) (d := r.2.1) (q := r.2.2) hr
theorem rda_data (l : List UInt8) : ∀ f p fs, rda f l p = some fs → ∀ a ∈ fs, a.data.length ≤ l.length := by
  intro f
  induction f with
  | zero => intro p fs h; simp [rda] at h
  | succ f ih =>
    intro p fs h
    unfold rda at h
    split at h
    · simp only [Option.some.injEq] at h; subst h; simp
    · split at h
      · cases h
      · rename_i a q hq
        simp only [Option.map_eq_some_iff] at h
        obtain ⟨r, hr, rfl⟩ := h
        intro b hb
        rcases List.mem_cons.1 hb with rfl | hb
        · exact rdF_data hq
        · exact ih q r hr b hb
theorem readE_data (l : List UInt8) : ∀ a ∈ (readE l).1, a.data.length ≤ 4194304 := by
  unfold readE
  split
  · simp
  · split
    · simp
    · rename_i h fs hfs
      intro a ha
      have := rda_data l _ 0 fs hfs a ha
      omega
end Go.Proofs.YtlhpmlknmgocoaaGreat

/- The contract of awake: the document's examples hold. -/
namespace Go.Proofs.YtlhpmlknmgocoaaGreat
open Go.RowKit

theorem ex_vi : vi 300 = [172, 2] := by decide
theorem ex_rv0 : rvar [172, 2] (0 : Int) = (300, 2, 0) := by decide
theorem ex_rv2 : rvar [172, 2] (2 : Int) = (0, 0, 6) := by decide
theorem ex_rd : readE [8, 150, 1, 18, 2, 65, 66] = ([⟨1, 0, 150, []⟩, ⟨2, 2, 0, [65, 66]⟩], 0) := by rfl
theorem ex_rd2 : readE [18, 3, 65] = ([], 6) := by rfl
theorem ex_wr : writeE [⟨1, 0, 150, []⟩, ⟨2, 2, 0, [65, 66]⟩] = ([8, 150, 1, 18, 2, 65, 66], 0) := by rfl

theorem RB.lit (w : World) (l : List UInt8) : RB (w.alloc (.cells (byt l).toArray 5)) (w.heap.size + 1) (some ⟨w.heap.size, 0, none⟩) l := Reads.new_ w 5 (byt l) 1 l.length (by simp [byt_len])

theorem read_at {A : Option Addr} {cap n : Nat} {w : World} (l : List UInt8) {fs : List Fld} {er : Int} (hn : n = l.length) (hr : readE l = (fs, er)) (hcap : l.length ≤ cap) (hm : cap ≤ maxLen) (hb : RB w w.heap.size A l) :
    Calls Tryz.prog 61 #[.slice A n cap] w fun e w' => ∃ v, e = .returned (.tuple #[v, .int .i64 er]) ∧ OF w' w.heap.size 108 v fs ∧ Below w.heap.size w w' := by
  subst hn
  have h := read_any A cap l w hcap hm hb
  rw [hr] at h
  exact h
theorem write_at {A : Option Addr} {cap n : Nat} {w : World} (fs : List Fld) {l : List UInt8} {er : Int} (hn : n = fs.length) (hr : writeE fs = (l, er)) (hm : cap ≤ maxLen) (hcap : fs.length ≤ cap) (hb : RF w w.heap.size A fs) (hwf : Wf64 fs) :
    Calls Tryz.prog 28 #[.slice A n cap] w fun e w' => ∃ v, e = .returned (.tuple #[v, .int .i64 er]) ∧ OB w' w.heap.size v l ∧ Below w.heap.size w w' := by
  subst hn
  have h := write_any A cap fs w hm hcap hb hwf
  rw [hr] at h
  exact h

/-- the two fields of the example -/
def exF : List Fld := [⟨1, 0, 150, []⟩, ⟨2, 2, 0, [65, 66]⟩]
def exB : Obj := .cells #[.int .u8 65, .int .u8 66] 5 (2, 3)
def exC (g : Nat) : Obj := .cells #[.int .i64 1, .int .i64 0, .int .u64 150, .slice none 0 0, .int .i64 2, .int .i64 2, .int .u64 0, .slice (some ⟨g, 0, none⟩) 2 2] 108
theorem ex_rf (w : World) : RF ((w.alloc exB).alloc (exC w.heap.size)) ((w.alloc exB).alloc (exC w.heap.size)).heap.size (some ⟨w.heap.size + 1, 0, none⟩) exF := by
  have hz : (w.alloc exB).heap.size = w.heap.size + 1 := by simp
  have h1 := Reads.new_ (w.alloc exB) 108 (fcells exF [.slice none 0 0, .slice (some ⟨w.heap.size, 0, none⟩) 2 2]) 4 2 rfl
  have h2 : RB (w.alloc exB) (w.heap.size + 1) (some ⟨w.heap.size, 0, none⟩) [65, 66] := Reads.newm w 5 (2, 3) (byt [65, 66]) 1 2 rfl
  refine ⟨[.slice none 0 0, .slice (some ⟨w.heap.size, 0, none⟩) 2 2], rfl, ?_, ?_⟩
  · rw [hz] at h1
    exact h1.more (by simp)
  · intro i h h'
    match i, h with
    | 0, _ => exact ⟨none, 0, rfl, Nat.le_refl _, by decide, RB.nil _ _ _⟩
    | 1, _ => exact ⟨_, 2, rfl, Nat.le_refl _, by decide, (h2.alloc (by simp) _).more (by simp)⟩
theorem ex_wf : Wf64 exF := by
  intro f hf
  simp only [exF, List.mem_cons, List.not_mem_nil, or_false] at hf
  rcases hf with rfl | rfl <;> exact ⟨by decide, by decide⟩

theorem str_ab {w : World} {b o c : Nat} (h0 : w.cell? ⟨b, o, none⟩ = some (.int .u8 65)) (h1 : w.cell? ⟨b, o + 1, none⟩ = some (.int .u8 66)) :
    (convert 28 9 (.slice (some ⟨b, o, none⟩) 2 c)).run Tryz.prog w = .ok (.string ⟨#[65, 66]⟩) w := by
  rw [run_convert_bytes_string w 28 9 5 _ _ _ Tryz.underlying28 Tryz.underlying5 Tryz.underlying9]
  rw [run_bytesToString w ⟨b, o, none⟩ 2 c [65, 66] (run_loadCells_list w ⟨b, o, none⟩ [.int .u8 65, .int .u8 66] ?_)]
  · rfl
  · intro j v hj
    rw [Addr.add_lit]
    match j with
    | 0 => simp at hj; subst hj; exact h0
    | 1 => simp at hj; subst hj; exact h1
    | j + 2 => simp at hj

end Go.Proofs.YtlhpmlknmgocoaaGreat

/- How the arguments of the statements are opened: bytes as RB, within the reach; and the shell that all statements share. -/
namespace Go.Proofs.YtlhpmlknmgocoaaGreat
open Go.ChangeShapes Go.WideShapes Go.ChangeAt Go.RowKit

theorem below_drewN {B : Nat} {a w : World} (h : Below B a w) (n : Nat) : Below B a (w.drewN n) := ⟨h.os, h.tape, h.output, h.size, h.block⟩

theorem own : ownKnob Tryz.prog.godebug = none := by kernel_rfl
theorem laidOut : laidOutB Tryz.prog = true := by kernel_rfl
theorem bytes_u8 : Tryz.prog.bytesOf 5 = 1 := by kernel_rfl
theorem cells_u8 : Tryz.prog.cellsOf 5 = 1 := by kernel_rfl

section
variable {H : Type} {enc : TypeId × Value → H} {W : World} {base0 base : Nat} {spare : Nat → Bool} {held : Bool}
set_option maxRecDepth 100000 in
/-- a []byte that came in -/
theorem open_bytes {r : Reach} {v : Value} {d : DataW H} {p : List MemPlace} (hv : Value.okWide Tryz.prog W r base0 28 v) (h : DataW.Trod enc Tryz.prog W base spare held 28 v d p)
    (hw : ∀ n ∈ d.weights Tryz.prog 28, n ≤ reachBytes) (hs : ∀ b, spare b = true) :
    ∃ A cap l, v = .slice A l.length cap ∧ l.length ≤ cap ∧ cap ≤ 140737488351232 ∧ RB W W.heap.size A l := by
  obtain ⟨a0, len, cap, rfl⟩ := okWide_slice Tryz.underlying28 hv
  obtain ⟨fuel, hf⟩ := h
  rcases open_ints Tryz.underlying28 Tryz.underlying5 cells_u8 hf with ⟨hcs, hx⟩ | ⟨x, l, c, zs, hcs, _, hl, hm, hz, hx, hcell, hwz⟩
  · simp [Value.cells] at hcs
    obtain ⟨rfl, rfl, rfl⟩ := hcs
    exact ⟨none, 0, [], rfl, Nat.le_refl _, by omega, RB.nil _ _ _⟩
  · simp [Value.cells] at hcs
    obtain ⟨rfl, rfl, rfl⟩ := hcs
    rw [hs x.block, if_pos rfl] at hz
    simp only [Prod.mk.injEq] at hx
    have hsz := hw ((lits (H := H) .u8 (zs.take len)).length + (lits (H := H) .u8 (zs.drop len)).length) (by
      rw [hx.1]
      simp [DataW.weights, Tryz.underlying28, bytes_u8])
    have hlen : (lits (H := H) .u8 (zs.take len)).length + (lits (H := H) .u8 (zs.drop len)).length = cap := by
      simp [lits]; omega
    rw [hlen] at hsz
    have hll : ((zs.take len).map fun z => UInt8.ofNat z.toNat).length = len := by simp; omega
    refine ⟨some x, cap, (zs.take len).map fun z => UInt8.ofNat z.toNat, by rw [hll], by rw [hll]; exact hl, hsz, ?_⟩
    refine ⟨by rw [byt_len]; omega, fun hn => ⟨x, rfl, ?_, ?_⟩⟩
    · have h0 := hcell 0 (by rw [hll] at hn; omega)
      have := World.block_lt_of_cell? W _ h0
      rwa [block_of_add] at this
    · intro j u hu
      have hj : j < ((zs.take len).map fun z => UInt8.ofNat z.toNat).length := by
        have := (List.getElem?_eq_some_iff.1 hu).1
        rwa [byt_len] at this
      rw [byt_get _ j hj] at hu
      obtain rfl := Option.some.inj hu
      rw [hll] at hj
      have hjz : j < zs.length := by omega
      rw [hcell j hjz]
      have hmem := hwz zs[j] (List.getElem_mem _)
      have hb := bounds_u8 hmem
      simp only [List.getElem_map, List.getElem_take, List.getD_eq_getElem?_getD, List.getElem?_eq_getElem hjz, Option.getD_some]
      congr 2
      simp only [UInt8.toNat_ofNat']
      omega
end
end Go.Proofs.YtlhpmlknmgocoaaGreat

/- How a []Field that came in is opened. (The first theorem: section 1 of the guide's page on structs, offered for copying.) -/
namespace Go.Proofs.YtlhpmlknmgocoaaGreat
open Go.ChangeShapes Go.WideShapes Go.ChangeAt Go.RowKit Go.Deep

section
variable {H : Type} {enc : TypeId × Value → H} {P : Program} {w : World} {base : Nat} {spare : Nat → Bool} {held : Bool}
theorem open_slice_fields {t e : TypeId} {fs : Array Field} {fuel : Nat} {cs : List Value} {x : DataW H × List MemPlace} (ht : P.underlying t = some (.slice e)) (he : P.underlying e = some (.struct fs))
    (hone : oneCellFields P fs = true) (hC : P.cellsOf e = fs.size) (h : DataW.trod enc P w base spare held fuel t cs = some x) :
    (cs = [.slice none 0 0] ∧ x = (.nil, [])) ∨
    ∃ (a : Addr) (len cap m : Nat) (D : Nat → DataW H) (Pl : Nat → List MemPlace), cs = [.slice (some a) len cap] ∧ base ≤ a.block ∧ len ≤ cap ∧ cap ≤ maxLen ∧ m = (if spare a.block then cap else len) ∧
      x = (.slice ((List.range len).map D) ((List.range (m - len)).map fun j => D (len + j)), MemPlace.row a (m * fs.size) ++ (List.range m).flatMap Pl) ∧
      ∀ i, i < m → ∃ (ys : List (DataW H × List MemPlace)) (n : Nat), D i = .agg (ys.map (·.1)) ∧ Pl i = ys.flatMap (·.2) ∧ ys.length = fs.size ∧
        ∀ (j : Nat) (f : Field), fs[j]? = some f → ∃ (v : Value) (y : DataW H × List MemPlace), w.cell? (a.add (i * fs.size + j)) = some v ∧ ys[j]? = some y ∧ DataW.trod enc P w base spare held n f.type [v] = some y := by
  rcases open_slice ht h with h0 | ⟨a, len, cap, m, n, D, Pl, hcs, hb, hl, hm, hmm, hx, hi⟩
  · exact .inl h0
  · refine .inr ⟨a, len, cap, m, D, Pl, hcs, hb, hl, hm, hmm, by rw [hC] at hx; exact hx, fun i him => ?_⟩
    obtain ⟨cs', hc, ht'⟩ := hi i him
    rw [hC] at hc
    obtain ⟨ys, n', hn', hy, hlen, hyl, hf⟩ := DataW.trod_struct he ht'
    obtain ⟨_, hcl, hat⟩ := World.cells?_some hc
    simp only [Prod.mk.injEq] at hy
    refine ⟨ys, n', hy.1, hy.2, hyl, fun j f hj => ?_⟩
    obtain ⟨ho, hk⟩ := hone_of hone j f hj
    have hjl : j < fs.size := (Array.getElem?_eq_some_iff.1 hj).1
    have hcell := hat j hjl
    have hv : cs'[j]? = some (cs'[j]'(by omega)) := List.getElem?_eq_getElem (by omega)
    have h1 := hf j f hj
    rw [ho, hk] at h1
    have hone' : (cs'.drop j).take 1 = [cs'[j]'(by omega)] := by
      rw [List.drop_eq_getElem_cons (by omega)]
      rfl
    rw [hone'] at h1
    have hys : ys[j]? = some (ys[j]'(by omega)) := List.getElem?_eq_getElem (by omega)
    refine ⟨_, _, ?_, hys, h1.trans hys⟩
    rw [← Go.Deep.add_add, hcell, hv]
end

theorem exists_list {α : Type} {P : Nat → α → Prop} : ∀ (n : Nat), (∀ i, i < n → ∃ a, P i a) → ∃ l : List α, l.length = n ∧ ∀ i (h : i < l.length), P i l[i]
  | 0, _ => ⟨[], rfl, fun _ h => by cases h⟩
  | n + 1, h => by
    obtain ⟨l, h1, h2⟩ := exists_list n (fun i hi => h i (by omega))
    obtain ⟨a, ha⟩ := h n (by omega)
    refine ⟨l ++ [a], by simp [h1], fun i hi => ?_⟩
    by_cases hlt : i < l.length
    · rw [List.getElem_append_left hlt]; exact h2 i hlt
    · have : i = n := by simp at hi; omega
      subst this
      rw [List.getElem_append_right (by omega)]
      simpa [h1] using ha

theorem mem_weightsAll {H : Type} {P : Program} {e : TypeId} {d : DataW H} {n : Nat} : ∀ {l : List (DataW H)}, d ∈ l → n ∈ d.weights P e → n ∈ DataW.weightsAll P e l
  | a :: l, h, hn => by
    unfold DataW.weightsAll
    rcases List.mem_cons.1 h with rfl | h
    · exact List.mem_append_left _ hn
    · exact List.mem_append_right _ (mem_weightsAll h hn)

/-- how much fields weigh -/
def bulkF : List Fld → Nat
  | [] => 0
  | f :: fs => f.data.length + 1 + bulkF fs
theorem bulkAll_ge {H : Type} : ∀ (l : List (DataW H)), l.length ≤ Rows.uptoBulkAll l
  | [] => Nat.zero_le _
  | d :: l => by
    have := bulkAll_ge l
    have h1 : 1 ≤ Rows.uptoBulk d := by
      cases d with
      | lit x => cases x <;> simp [Rows.uptoBulk]
      | _ => simp [Rows.uptoBulk]
    simp only [Rows.uptoBulkAll, List.length_cons]; omega
theorem bytes_f : Tryz.prog.bytesOf 108 = 48 := by kernel_rfl
theorem cells_f : Tryz.prog.cellsOf 108 = 4 := by kernel_rfl
theorem one_f : oneCellFields Tryz.prog #[{ name := "Num", type := 3, offset := 0, embedded := false, tag := "", pkgPath := "", byteOffset := 0 }, { name := "Wire", type := 3, offset := 1, embedded := false, tag := "", pkgPath := "", byteOffset := 8 }, { name := "X", type := 60, offset := 2, embedded := false, tag := "", pkgPath := "", byteOffset := 16 }, { name := "Data", type := 28, offset := 3, embedded := false, tag := "", pkgPath := "", byteOffset := 24 }] = true := by kernel_rfl

section
variable {H : Type} {enc : TypeId × Value → H} {W : World} {base0 base : Nat} {spare : Nat → Bool} {held : Bool}
/-- bytes down in a datum -/
theorem open_bytes_in {fuel : Nat} {v : Value} {y : DataW H × List MemPlace} (h : DataW.trod enc Tryz.prog W base spare held fuel 28 [v] = some y) (hw : ∀ n ∈ y.1.weights Tryz.prog 28, n ≤ reachBytes) (hs : ∀ b, spare b = true) :
    ∃ l, DV W W.heap.size v l ∧ l.length ≤ 140737488351232 ∧ l.length + 1 ≤ Rows.uptoBulk y.1 := by
  rcases open_ints Tryz.underlying28 Tryz.underlying5 cells_u8 h with ⟨hcs, hx⟩ | ⟨x, l, c, zs, hcs, _, hl, hm, hz, hx, hcell, hwz⟩
  · simp only [List.cons.injEq, and_true] at hcs
    subst hcs
    have h1 : 1 ≤ Rows.uptoBulk y.1 := by rw [hx]; simp [Rows.uptoBulk]
    exact ⟨[], ⟨none, 0, rfl, Nat.le_refl _, by unfold maxLen; omega, RB.nil _ _ _⟩, by simp, by simpa using h1⟩
  · simp only [List.cons.injEq, and_true] at hcs
    subst hcs
    rw [hs x.block, if_pos rfl] at hz
    have hy : y.1 = .slice (lits .u8 (zs.take l)) (lits .u8 (zs.drop l)) := by rw [hx]
    have hlen : (lits (H := H) .u8 (zs.take l)).length + (lits (H := H) .u8 (zs.drop l)).length = c := by
      simp [lits]; omega
    have hsz := hw c (by
      rw [hy, ← hlen]
      simp [DataW.weights, Tryz.underlying28, bytes_u8])
    have hll : ((zs.take l).map fun z => UInt8.ofNat z.toNat).length = l := by simp; omega
    refine ⟨(zs.take l).map fun z => UInt8.ofNat z.toNat, ⟨some x, c, by rw [hll], by rw [hll]; exact hl, hm, ?_⟩, by rw [hll]; have : reachBytes = 140737488351232 := rfl; omega, ?_⟩
    · refine ⟨by rw [byt_len]; omega, fun hn => ⟨x, rfl, ?_, ?_⟩⟩
      · have h0 := hcell 0 (by rw [hll] at hn; omega)
        have := World.block_lt_of_cell? W _ h0
        rwa [block_of_add] at this
      · intro j u hu
        have hj : j < ((zs.take l).map fun z => UInt8.ofNat z.toNat).length := by
          have := (List.getElem?_eq_some_iff.1 hu).1
          rwa [byt_len] at this
        rw [byt_get _ j hj] at hu
        obtain rfl := Option.some.inj hu
        rw [hll] at hj
        have hjz : j < zs.length := by omega
        rw [hcell j hjz]
        have hb := bounds_u8 (hwz zs[j] (List.getElem_mem _))
        simp only [List.getElem_map, List.getElem_take, List.getD_eq_getElem?_getD, List.getElem?_eq_getElem hjz, Option.getD_some]
        congr 2
        simp only [UInt8.toNat_ofNat']
        omega
    · rw [hy, hll]
      have h1 := bulkAll_ge (lits (H := H) .u8 (zs.take l))
      have h2 : (lits (H := H) .u8 (zs.take l)).length = l := by simp [lits]; omega
      simp only [Rows.uptoBulk]; omega

theorem u64_nat {n : Int} (h : (Lit.int .u64 n).wf = true) : ∃ x : Nat, n = x ∧ x < 18446744073709551616 := by
  have hb := bounds_u64 h
  obtain ⟨x, rfl⟩ := Int.eq_ofNat_of_zero_le hb.1
  exact ⟨x, rfl, by omega⟩

set_option maxRecDepth 100000 in
/-- a []Field that came in -/
theorem open_fields {r : Reach} {v : Value} {d : DataW H} {p : List MemPlace} (hv : Value.okWide Tryz.prog W r base0 69 v) (h : DataW.Trod enc Tryz.prog W base spare held 69 v d p)
    (hw : ∀ n ∈ d.weights Tryz.prog 69, n ≤ reachBytes) (hs : ∀ b, spare b = true) :
    ∃ A cap fs, v = .slice A fs.length cap ∧ fs.length ≤ cap ∧ cap ≤ 2932031007400 ∧ RF W W.heap.size A fs ∧ Wf64 fs ∧ bulkF fs + 1 ≤ Rows.uptoBulk d := by
  obtain ⟨a0, len, cap, rfl⟩ := okWide_slice Tryz.underlying69 hv
  obtain ⟨fuel, hf⟩ := h
  rcases open_slice_fields Tryz.underlying69 Tryz.underlying108 one_f cells_f hf with ⟨hcs, hx⟩ | ⟨a, l, c, m, D, Pl, hcs, hb, hl, hm, hmm, hx, hi⟩
  · simp [Value.cells] at hcs
    obtain ⟨rfl, rfl, rfl⟩ := hcs
    simp only [Prod.mk.injEq] at hx
    refine ⟨none, 0, [], rfl, Nat.le_refl _, by omega, ⟨[], rfl, ⟨rfl, fun h => by cases h⟩, fun i h => by cases h⟩, fun f hf => by simp at hf, ?_⟩
    rw [hx.1]; simp [Rows.uptoBulk, bulkF]
  · simp [Value.cells] at hcs
    obtain ⟨rfl, rfl, rfl⟩ := hcs
    rw [hs a.block, if_pos rfl] at hmm
    have hmm' := hmm.symm
    subst hmm'
    simp only [Prod.mk.injEq] at hx
    have hd := hx.1
    have hsz := hw (cap * 48) (by
      rw [hd]
      simp only [DataW.weights, Tryz.underlying69, bytes_f, List.length_map, List.length_range]
      rw [show len + (cap - len) = cap by omega]
      exact List.mem_cons_self)
    have hrb : reachBytes = 140737488351232 := rfl
    have hel : ∀ i, i < len → ∃ q : Fld × Value, (W.cell? (a.add (i * 4 + 0)) = some (.int .i64 q.1.num) ∧ W.cell? (a.add (i * 4 + 1)) = some (.int .i64 q.1.wire) ∧ W.cell? (a.add (i * 4 + 2)) = some (.int .u64 (q.1.x : Int)) ∧ W.cell? (a.add (i * 4 + 3)) = some q.2) ∧
        DV W W.heap.size q.2 q.1.data ∧ q.1.x < 18446744073709551616 ∧ q.1.data.length ≤ 140737488351232 ∧ q.1.data.length + 1 ≤ Rows.uptoBulk (D i) := by
      intro i hil
      obtain ⟨ys, n, hD, hPl, hyl, hff⟩ := hi i (by omega)
      obtain ⟨v0, y0, c0, e0, t0⟩ := hff 0 _ rfl
      obtain ⟨v1, y1, c1, e1, t1⟩ := hff 1 _ rfl
      obtain ⟨v2, y2, c2, e2, t2⟩ := hff 2 _ rfl
      obtain ⟨v3, y3, c3, e3, t3⟩ := hff 3 _ rfl
      obtain ⟨n0, g0, -, -⟩ := DataW.trod_int Tryz.underlying3 t0
      obtain ⟨n1, g1, -, -⟩ := DataW.trod_int Tryz.underlying3 t1
      obtain ⟨n2, g2, -, w2⟩ := DataW.trod_int Tryz.underlying60 t2
      simp only [List.cons.injEq, and_true] at g0 g1 g2
      subst g0 g1 g2
      obtain ⟨x, rfl, hx64⟩ := u64_nat w2
      have hDmem : D i ∈ (List.range len).map D := List.mem_map.2 ⟨i, List.mem_range.2 hil, rfl⟩
      match ys, hyl, hD, e0, e1, e2, e3 with
      | [z0, z1, z2, z3], _, hD, e0, e1, e2, e3 =>
        simp only [List.getElem?_cons_zero, List.getElem?_cons_succ, Option.some.injEq] at e0 e1 e2 e3
        subst e0 e1 e2 e3
        have hwt : ∀ k ∈ z3.1.weights Tryz.prog 28, k ≤ reachBytes := by
          intro k hk
          refine hw k ?_
          rw [hd]
          simp only [DataW.weights, Tryz.underlying69]
          refine List.mem_cons_of_mem _ (List.mem_append_left _ (mem_weightsAll hDmem ?_))
          rw [hD]
          simp only [DataW.weights, Tryz.underlying108]
          show k ∈ DataW.weightsEach Tryz.prog [3, 3, 60, 28] [z0.1, z1.1, z2.1, z3.1]
          simp [DataW.weightsEach, hk]
        obtain ⟨ld, hdv, hll, hbk⟩ := open_bytes_in t3 hwt hs
        refine ⟨(⟨n0, n1, x, ld⟩, v3), ⟨c0, c1, c2, c3⟩, hdv, hx64, hll, ?_⟩
        rw [hD]
        show _ ≤ Rows.uptoBulk (.agg [z0.1, z1.1, z2.1, z3.1])
        simp only [Rows.uptoBulk, Rows.uptoBulkAll]; omega
    obtain ⟨qs, hql, hq⟩ := exists_list len hel
    have hlen : (qs.map (·.1)).length = len := by simp [hql]
    refine ⟨some a, cap, qs.map (·.1), by rw [hlen], by rw [hlen]; exact hl, by omega, ⟨qs.map (·.2), by simp, ⟨by rw [fcells_len _ _ (by simp)], fun hn => ⟨a, rfl, ?_, ?_⟩⟩, ?_⟩, ?_, ?_⟩
    · have h0 := (hq 0 (by rw [hlen] at hn; omega)).1.1
      have := World.block_lt_of_cell? W _ h0
      rwa [block_of_add] at this
    · intro j u hu
      have hj : j < len * 4 := by
        have := (List.getElem?_eq_some_iff.1 hu).1
        rwa [fcells_len _ _ (by simp), hlen] at this
      have hjq : j / 4 < qs.length := by omega
      have h5 := fcells_get (qs.map (·.1)) (qs.map (·.2)) (by simp) (j / 4) (j % 4) (by simpa using hjq) (by simpa using hjq) (by omega)
      rw [show j / 4 * 4 + j % 4 = j by omega, hu] at h5
      simp only [List.getElem_map] at h5
      obtain ⟨c0, c1, c2, c3⟩ := (hq (j / 4) hjq).1
      have hj4 : j = j / 4 * 4 + j % 4 := by omega
      rw [hj4]
      rcases (by omega : j % 4 = 0 ∨ j % 4 = 1 ∨ j % 4 = 2 ∨ j % 4 = 3) with e | e | e | e
      · rw [e] at h5 ⊢; rw [c0]; simpa [fcell] using h5.symm
      · rw [e] at h5 ⊢; rw [c1]; simpa [fcell] using h5.symm
      · rw [e] at h5 ⊢; rw [c2]; simpa [fcell] using h5.symm
      · rw [e] at h5 ⊢; rw [c3]; simpa [fcell] using h5.symm
    · intro i h h'
      simp only [List.getElem_map]
      exact (hq i (by simpa using h)).2.1
    · intro f hf
      obtain ⟨q, hq', rfl⟩ := List.mem_map.1 hf
      obtain ⟨i, hi', rfl⟩ := List.getElem_of_mem hq'
      exact ⟨(hq i hi').2.2.1, (hq i hi').2.2.2.1⟩
    · rw [hd]
      have hb1 : ∀ (qs : List (Fld × Value)) (k : Nat), (∀ i (h : i < qs.length), qs[i].1.data.length + 1 ≤ Rows.uptoBulk (D (k + i))) → bulkF (qs.map (·.1)) ≤ Rows.uptoBulkAll ((List.range' k qs.length).map D) := by
        intro qs
        induction qs with
        | nil => intro k _; simp [bulkF]
        | cons q qs ih =>
          intro k hk
          have h1 := hk 0 (by simp)
          have h2 := ih (k + 1) (fun i h => by
            have := hk (i + 1) (by simpa using h)
            simp only [List.getElem_cons_succ] at this
            rwa [show k + 1 + i = k + (i + 1) by omega])
          simp only [List.map_cons, bulkF, List.length_cons, List.range'_succ, Rows.uptoBulkAll]
          simp only [List.getElem_cons_zero, Nat.add_zero] at h1
          omega
      have h3 := hb1 qs 0 (fun i h => by rw [Nat.zero_add]; exact (hq i h).2.2.2.2)
      rw [hql, ← List.range_eq_range'] at h3
      simp only [Rows.uptoBulk]; omega
end
end Go.Proofs.YtlhpmlknmgocoaaGreat
