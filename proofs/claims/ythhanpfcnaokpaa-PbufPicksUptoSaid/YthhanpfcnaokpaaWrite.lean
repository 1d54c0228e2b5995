/- The contract of pbuf.Write. -/
import Derived.Test.YthhanpfcnaokpaaMay
namespace Go.Proofs.Ythhanpfcnaokpaa
open Go.RowKit

/-- what Write answers -/
def WriteR (w : World) (r : List UInt8 × Int) (e : Ending) (w' : World) : Prop := ∃ v, e = .returned (.tuple #[v, .int .i64 r.2]) ∧ OB w' w.heap.size v r.1 ∧ Below w.heap.size w w'
theorem WriteR.mk {w w' : World} {r : List UInt8 × Int} {v : Value} {l : List UInt8} {er : Int} (h : r = (l, er)) (ho : OB w' w.heap.size v l) (hb : Below w.heap.size w w') : WriteR w r (.returned (.tuple #[v, .int .i64 er])) w' := by
  subst h; exact ⟨v, rfl, ho, hb⟩

/-- the first loop of Write: all may be written -/
def WArel (fs : List Fld) (w : World) (i : Value) (wr : World) : Prop := ∃ k : Nat, k ≤ fs.length ∧ i = .int .i64 (k : Int) ∧ (∀ j (h : j < fs.length), j < k → mayF fs[j] = true) ∧ Below w.heap.size w wr
/-- the second one: what has been written -/
def WBrel (fs : List Fld) (w : World) (i out : Value) (w1 : World) : Prop := ∃ k : Nat, k ≤ fs.length ∧ i = .int .i64 (k : Int) ∧ (wr (fs.take k)).length ≤ 4194304 ∧ OB w1 w.heap.size out (wr (fs.take k)) ∧ Below w.heap.size w w1

theorem may_at {num wire : Int} {x n cap : Nat} {A : Option Addr} {w : World} {b : Bool} (h : Hid (mayN num wire x n = b)) (hx : Hid (x < 18446744073709551616)) :
    Calls Try.prog 39 #[.agg #[.int .i64 num, .int .i64 wire, .int .u64 x, .slice A n cap]] w fun e w' => e = .returned (.bool b) ∧ Below w.heap.size w w' := by
  have h1 := may_any num wire x n cap A w hx.out
  rw [h.out] at h1
  exact h1
theorem varint_at (n : Nat) {t : Int} {w : World} (ht : t = n) (hn : n < 18446744073709551616) : Calls Try.prog 13 #[.int .u64 t] w (MadeB w (vi n)) := by
  subst ht; exact varint_any n hn w
/-- all numbers X fit 64 bits -/
def Wf64 (fs : List Fld) : Prop := ∀ f ∈ fs, f.x < 18446744073709551616 ∧ f.data.length ≤ 140737488351232

set_option maxRecDepth 100000 in
set_option maxHeartbeats 1600000 in
theorem write_any (A : Option Addr) (cap : Nat) (fs : List Fld) (w : World) (hm : cap ≤ maxLen) (hcap : fs.length ≤ cap) (hb : RF w w.heap.size A fs) (hwf : Wf64 fs) :
    Calls Try.prog 23 #[.slice A fs.length cap] w (WriteR w (writeE fs)) := by
  unfold maxLen at hm
  go_enter Try.func23, Try.ntmps23
  go_wp2
  go_loopw [11] (fun i wr => WArel fs w i wr) (fun i _ => fs.length - (intOf i).toNat)
  case atStart => exact ⟨0, Nat.zero_le _, rfl, fun _ _ h => absurd h (Nat.not_lt_zero _), Below.refl _ _⟩
  case round =>
    obtain ⟨k, hk, rfl, hall, hbel⟩ := hrel
    by_cases hlt : k < fs.length
    · have hbr := hb.below hbel
      have hsz := hbel.size
      obtain ⟨b, off, dv, rfl, hbb, hdv, a0, a1, a2, a3⟩ := hbr.at_ hlt
      have HX := Lib.hid (hwf fs[k] (List.getElem_mem hlt)).1
      obtain ⟨Ad, cd, rfl, hld, hmd, hrd⟩ := hdv
      cases hmay : mayF fs[k] with
      | false =>
        have HM : Hid (mayN fs[k].num fs[k].wire fs[k].x fs[k].data.length = false) := hmay
        have HE := Lib.hid (show writeE fs = ([], 1) by
          unfold writeE
          rw [if_neg]
          intro h
          rw [List.all_eq_true] at h
          have := h _ (List.getElem_mem hlt)
          rw [hmay] at this; cases this)
        clear hmay hall
        generalize fs[k] = f at *
        obtain ⟨num, wire, x, data⟩ := f
        go_wp2_with (go_at_call 39; go_must (refine (may_at HM HX).mono ?_); rintro e w1 ⟨rfl, hb1⟩)
        go_ret2
        exact WriteR.mk HE.out (OB.nil _ _) ((hbel.alloc hsz _).trans (hb1.mono (by simp; omega)))
      | true =>
        have HM : Hid (mayN fs[k].num fs[k].wire fs[k].x fs[k].data.length = true) := hmay
        have HA := Lib.hid (show ∀ j (h : j < fs.length), j < k + 1 → mayF fs[j] = true from fun j h hj => by
          by_cases e : j = k
          · subst e; exact hmay
          · exact hall j h (by omega))
        clear hmay hall
        generalize fs[k] = f at *
        obtain ⟨num, wire, x, data⟩ := f
        go_wp2_with (go_at_call 39; go_must (refine (may_at HM HX).mono ?_); rintro e w1 ⟨rfl, hb1⟩)
        go_roundw
        case rel => exact ⟨k + 1, by omega, by go_num, HA.out, (hbel.alloc hsz _).trans (hb1.mono (by simp; omega))⟩
        case measure => simp [intOf]; omega
    · have HA := Lib.hid (show ∀ f ∈ fs, mayF f = true from fun f hf => by
        obtain ⟨j, hj, rfl⟩ := List.getElem_of_mem hf
        exact hall j hj (by omega))
      clear hall
      go_wp2
      go_loopw [6, 21] (fun out i wr => WBrel fs w i out wr) (fun _ i _ => fs.length - (intOf i).toNat)
      case atStart => exact ⟨0, Nat.zero_le _, rfl, by simp [Go.Proofs.Ythhanpfcnaokpaa.wr], OB.nil _ _, hbel⟩
      case round =>
        clear hbel
        obtain ⟨k, hk, rfl, hlen, hown, hbel⟩ := hrel
        have hsz := hbel.size
        by_cases hlt : k < fs.length
        · skip
          obtain ⟨b, off, dv, rfl, hbb, hdv, a0', a1', a2', a3'⟩ := hb.at_ hlt
          have a0 := (hbel.cell (p := ⟨b, _, none⟩) hbb).trans a0'
          have a1 := (hbel.cell (p := ⟨b, _, none⟩) hbb).trans a1'
          have a2 := (hbel.cell (p := ⟨b, _, none⟩) hbb).trans a2'
          have a3 := (hbel.cell (p := ⟨b, _, none⟩) hbb).trans a3'
          clear a0' a1' a2' a3'
          have HX := Lib.hid (hwf fs[k] (List.getElem_mem hlt)).1
          have hdl := (hwf fs[k] (List.getElem_mem hlt)).2
          have HT := Lib.hid (wr_take fs k hlt)
          have HL := Lib.hid (wr_take_le fs (k + 1))
          have HF := Lib.hid (wr_take_le fs k)
          obtain ⟨m, hnum, hm1, hm2, hcase⟩ := mayF_cases (HA.out fs[k] (List.getElem_mem hlt))
          have HW := Lib.hid (show wrF fs[k] = _ from rfl)
          obtain ⟨Ad, cd, rfl, hld, hmd, hrd⟩ := hdv
          generalize fs[k] = f at *
          obtain ⟨num, wire, x, data⟩ := f
          dsimp only at *
          subst hnum
          rcases hcase with ⟨rfl, rfl⟩ | ⟨rfl, rfl⟩ | ⟨rfl, rfl, hx32⟩ | ⟨rfl, rfl⟩
          · have HM : Hid (wrF ⟨m, 0, x, []⟩ = vi (m * 8 + 0) ++ vi x) := by show _ = _; simp [wrF]
            go_wp2_with fail
            refine (varint_at (m * 8 + 0) (or8 m 0 (by decide) hm2) (by omega)).mono ?_
            rintro e w1 ⟨v1, rfl, ho1, hb1⟩
            obtain ⟨A1, n1, c1, rfl, hn1, hl1, hq1, hr1⟩ := ho1.form2
            have hk1 := (Blk.new wr 40 #[.int .i64 m, .int .i64 0, .int .u64 x, .slice Ad 0 cd]).below hb1 (by simp)
            have hown1 := OB.below (hown.alloc (.cells #[.int .i64 m, .int .i64 0, .int .u64 x, .slice Ad 0 cd] 40)) hb1 (Nat.le_refl _)
            have hbel1 := (hbel.alloc hsz (.cells #[.int .i64 m, .int .i64 0, .int .u64 x, .slice Ad 0 cd] 40)).trans (hb1.mono (by simp; omega))
            have hz1 := hbel1.size
            have hv1 := vi_len (m * 8 + 0)
            go_wp2_with (at_builtin
                         go_must (refine append_bytes rfl _ _ rfl hown1 rfl (vi (m * 8 + 0)) rfl hn1.out hr1 (by omega) hz1 ?_; intro v2 w2 ho2 hg2 ha2)
                         have hk2 := hk1.grown hg2 (own_blk_ne hown1 hk1 (by decide)).symm
                         obtain ⟨g0, g1, g2, g3⟩ := blk4 hk2
                         obtain ⟨A2, n2, c2, rfl, hn2, hl2, hq2, hr2⟩ := ho2.form2
                         have hbel2 := grown_below hown1 hg2 hz1 (Nat.le_refl _) hbel1
                         have hz2 := hbel2.size)
            refine (varint_at x rfl HX.out).mono ?_
            rintro e w3 ⟨v3, rfl, ho3, hb3⟩
            obtain ⟨A3, n3, c3, rfl, hn3, hl3, hq3, hr3⟩ := ho3.form2
            have hown3 := OB.below ho2 hb3 (Nat.le_refl _)
            have hbel3 := hbel2.trans (hb3.mono hz2)
            have hz3 := hbel3.size
            have hv3 := vi_len x
            go_wp2_with (at_builtin
                         go_must (refine append_bytes rfl _ _ rfl hown3 rfl (vi x) rfl hn3.out hr3 (by rw [List.length_append]; omega) hz3 ?_; intro v4 w4 ho4 hg4 ha4)
                         obtain ⟨A4, n4, c4, rfl, hn4, hl4, hq4, hr4⟩ := ho4.form2
                         have hbel4 := grown_below hown3 hg4 hz3 (Nat.le_refl _) hbel3)
            · have hbig : 4194304 < (n4 : Int) := by assumption
              have hw4 : Go.Proofs.Ythhanpfcnaokpaa.wr (fs.take (k + 1)) = Go.Proofs.Ythhanpfcnaokpaa.wr (fs.take k) ++ vi (m * 8 + 0) ++ vi x := by rw [HT.out, HM.out]; simp
              have HE : writeE fs = ([], 8) := by
                unfold writeE
                rw [if_pos (List.all_eq_true.2 HA.out), if_pos]
                have h1 := HL.out; have h2 := hn4.out; rw [hw4] at h1; omega
              go_ret2
              exact WriteR.mk HE (OB.nil _ _) (hbel4)
            · have hw4 : Go.Proofs.Ythhanpfcnaokpaa.wr (fs.take (k + 1)) = Go.Proofs.Ythhanpfcnaokpaa.wr (fs.take k) ++ vi (m * 8 + 0) ++ vi x := by rw [HT.out, HM.out]; simp
              have hsm : (n4 : Int) ≤ 4194304 := by assumption
              go_roundw
              case rel => exact ⟨k + 1, by omega, by go_num, by rw [hw4]; have := hn4.out; omega, by rw [hw4]; exact ho4, hbel4⟩
              case measure => simp [intOf]; omega
          · have HM : Hid (wrF ⟨m, 1, x, []⟩ = vi (m * 8 + 1) ++ fix8 x 8) := by show _ = _; simp [wrF]
            go_wp2_with fail
            refine (varint_at (m * 8 + 1) (or8 m 1 (by decide) hm2) (by omega)).mono ?_
            rintro e w1 ⟨v1, rfl, ho1, hb1⟩
            obtain ⟨A1, n1, c1, rfl, hn1, hl1, hq1, hr1⟩ := ho1.form2
            have hk1 := (Blk.new wr 40 #[.int .i64 m, .int .i64 1, .int .u64 x, .slice Ad 0 cd]).below hb1 (by simp)
            have hown1 := OB.below (hown.alloc (.cells #[.int .i64 m, .int .i64 1, .int .u64 x, .slice Ad 0 cd] 40)) hb1 (Nat.le_refl _)
            have hbel1 := (hbel.alloc hsz (.cells #[.int .i64 m, .int .i64 1, .int .u64 x, .slice Ad 0 cd] 40)).trans (hb1.mono (by simp; omega))
            have hz1 := hbel1.size
            have hv1 := vi_len (m * 8 + 1)
            go_wp2_with (at_builtin
                         go_must (refine append_bytes rfl _ _ rfl hown1 rfl (vi (m * 8 + 1)) rfl hn1.out hr1 (by omega) hz1 ?_; intro v2 w2 ho2 hg2 ha2)
                         have hk2 := hk1.grown hg2 (own_blk_ne hown1 hk1 (by decide)).symm
                         obtain ⟨g0, g1, g2, g3⟩ := blk4 hk2
                         obtain ⟨A2, n2, c2, rfl, hn2, hl2, hq2, hr2⟩ := ho2.form2
                         have hbel2 := grown_below hown1 hg2 hz1 (Nat.le_refl _) hbel1
                         have hz2 := hbel2.size)
            refine (fixed_any x 8 (by omega) w2).mono ?_
            rintro e w3 ⟨v3, rfl, ho3, hb3⟩
            obtain ⟨A3, n3, c3, rfl, hn3, hl3, hq3, hr3⟩ := ho3.form2
            have hown3 := OB.below ho2 hb3 (Nat.le_refl _)
            have hbel3 := hbel2.trans (hb3.mono hz2)
            have hz3 := hbel3.size
            have hv3 := fix8_len x 8
            go_wp2_with (at_builtin
                         go_must (refine append_bytes rfl _ _ rfl hown3 rfl (fix8 x 8) rfl hn3.out hr3 (by rw [List.length_append]; omega) hz3 ?_; intro v4 w4 ho4 hg4 ha4)
                         obtain ⟨A4, n4, c4, rfl, hn4, hl4, hq4, hr4⟩ := ho4.form2
                         have hbel4 := grown_below hown3 hg4 hz3 (Nat.le_refl _) hbel3)
            · have hbig : 4194304 < (n4 : Int) := by assumption
              have hw4 : Go.Proofs.Ythhanpfcnaokpaa.wr (fs.take (k + 1)) = Go.Proofs.Ythhanpfcnaokpaa.wr (fs.take k) ++ vi (m * 8 + 1) ++ fix8 x 8 := by rw [HT.out, HM.out]; simp
              have HE : writeE fs = ([], 8) := by
                unfold writeE
                rw [if_pos (List.all_eq_true.2 HA.out), if_pos]
                have h1 := HL.out; have h2 := hn4.out; rw [hw4] at h1; omega
              go_ret2
              exact WriteR.mk HE (OB.nil _ _) (hbel4)
            · have hw4 : Go.Proofs.Ythhanpfcnaokpaa.wr (fs.take (k + 1)) = Go.Proofs.Ythhanpfcnaokpaa.wr (fs.take k) ++ vi (m * 8 + 1) ++ fix8 x 8 := by rw [HT.out, HM.out]; simp
              have hsm : (n4 : Int) ≤ 4194304 := by assumption
              go_roundw
              case rel => exact ⟨k + 1, by omega, by go_num, by rw [hw4]; have := hn4.out; omega, by rw [hw4]; exact ho4, hbel4⟩
              case measure => simp [intOf]; omega
          · have HM : Hid (wrF ⟨m, 5, x, []⟩ = vi (m * 8 + 5) ++ fix8 x 4) := by show _ = _; simp [wrF]
            go_wp2_with fail
            refine (varint_at (m * 8 + 5) (or8 m 5 (by decide) hm2) (by omega)).mono ?_
            rintro e w1 ⟨v1, rfl, ho1, hb1⟩
            obtain ⟨A1, n1, c1, rfl, hn1, hl1, hq1, hr1⟩ := ho1.form2
            have hk1 := (Blk.new wr 40 #[.int .i64 m, .int .i64 5, .int .u64 x, .slice Ad 0 cd]).below hb1 (by simp)
            have hown1 := OB.below (hown.alloc (.cells #[.int .i64 m, .int .i64 5, .int .u64 x, .slice Ad 0 cd] 40)) hb1 (Nat.le_refl _)
            have hbel1 := (hbel.alloc hsz (.cells #[.int .i64 m, .int .i64 5, .int .u64 x, .slice Ad 0 cd] 40)).trans (hb1.mono (by simp; omega))
            have hz1 := hbel1.size
            have hv1 := vi_len (m * 8 + 5)
            go_wp2_with (at_builtin
                         go_must (refine append_bytes rfl _ _ rfl hown1 rfl (vi (m * 8 + 5)) rfl hn1.out hr1 (by omega) hz1 ?_; intro v2 w2 ho2 hg2 ha2)
                         have hk2 := hk1.grown hg2 (own_blk_ne hown1 hk1 (by decide)).symm
                         obtain ⟨g0, g1, g2, g3⟩ := blk4 hk2
                         obtain ⟨A2, n2, c2, rfl, hn2, hl2, hq2, hr2⟩ := ho2.form2
                         have hbel2 := grown_below hown1 hg2 hz1 (Nat.le_refl _) hbel1
                         have hz2 := hbel2.size)
            refine (fixed_any x 4 (by omega) w2).mono ?_
            rintro e w3 ⟨v3, rfl, ho3, hb3⟩
            obtain ⟨A3, n3, c3, rfl, hn3, hl3, hq3, hr3⟩ := ho3.form2
            have hown3 := OB.below ho2 hb3 (Nat.le_refl _)
            have hbel3 := hbel2.trans (hb3.mono hz2)
            have hz3 := hbel3.size
            have hv3 := fix8_len x 4
            go_wp2_with (at_builtin
                         go_must (refine append_bytes rfl _ _ rfl hown3 rfl (fix8 x 4) rfl hn3.out hr3 (by rw [List.length_append]; omega) hz3 ?_; intro v4 w4 ho4 hg4 ha4)
                         obtain ⟨A4, n4, c4, rfl, hn4, hl4, hq4, hr4⟩ := ho4.form2
                         have hbel4 := grown_below hown3 hg4 hz3 (Nat.le_refl _) hbel3)
            · have hbig : 4194304 < (n4 : Int) := by assumption
              have hw4 : Go.Proofs.Ythhanpfcnaokpaa.wr (fs.take (k + 1)) = Go.Proofs.Ythhanpfcnaokpaa.wr (fs.take k) ++ vi (m * 8 + 5) ++ fix8 x 4 := by rw [HT.out, HM.out]; simp
              have HE : writeE fs = ([], 8) := by
                unfold writeE
                rw [if_pos (List.all_eq_true.2 HA.out), if_pos]
                have h1 := HL.out; have h2 := hn4.out; rw [hw4] at h1; omega
              go_ret2
              exact WriteR.mk HE (OB.nil _ _) (hbel4)
            · have hw4 : Go.Proofs.Ythhanpfcnaokpaa.wr (fs.take (k + 1)) = Go.Proofs.Ythhanpfcnaokpaa.wr (fs.take k) ++ vi (m * 8 + 5) ++ fix8 x 4 := by rw [HT.out, HM.out]; simp
              have hsm : (n4 : Int) ≤ 4194304 := by assumption
              go_roundw
              case rel => exact ⟨k + 1, by omega, by go_num, by rw [hw4]; have := hn4.out; omega, by rw [hw4]; exact ho4, hbel4⟩
              case measure => simp [intOf]; omega
          · have HM : Hid (wrF ⟨m, 2, 0, data⟩ = vi (m * 8 + 2) ++ (vi data.length ++ data)) := by show _ = _; simp [wrF]
            go_wp2_with fail
            refine (varint_at (m * 8 + 2) (or8 m 2 (by decide) hm2) (by omega)).mono ?_
            rintro e w1 ⟨v1, rfl, ho1, hb1⟩
            obtain ⟨A1, n1, c1, rfl, hn1, hl1, hq1, hr1⟩ := ho1.form2
            have hk1 := (Blk.new wr 40 #[.int .i64 m, .int .i64 2, .int .u64 0, .slice Ad data.length cd]).below hb1 (by simp)
            have hown1 := OB.below (hown.alloc (.cells #[.int .i64 m, .int .i64 2, .int .u64 0, .slice Ad data.length cd] 40)) hb1 (Nat.le_refl _)
            have hbel1 := (hbel.alloc hsz (.cells #[.int .i64 m, .int .i64 2, .int .u64 0, .slice Ad data.length cd] 40)).trans (hb1.mono (by simp; omega))
            have hz1 := hbel1.size
            have hv1 := vi_len (m * 8 + 2)
            go_wp2_with (at_builtin
                         go_must (refine append_bytes rfl _ _ rfl hown1 rfl (vi (m * 8 + 2)) rfl hn1.out hr1 (by omega) hz1 ?_; intro v2 w2 ho2 hg2 ha2)
                         have hk2 := hk1.grown hg2 (own_blk_ne hown1 hk1 (by decide)).symm
                         obtain ⟨g0, g1, g2, g3⟩ := blk4 hk2
                         obtain ⟨A2, n2, c2, rfl, hn2, hl2, hq2, hr2⟩ := ho2.form2
                         have hbel2 := grown_below hown1 hg2 hz1 (Nat.le_refl _) hbel1
                         have hz2 := hbel2.size)
            refine (varint_at data.length rfl (by omega)).mono ?_
            rintro e w3 ⟨v3, rfl, ho3, hb3⟩
            obtain ⟨A3, n3, c3, rfl, hn3, hl3, hq3, hr3⟩ := ho3.form2
            have hown3 := OB.below ho2 hb3 (Nat.le_refl _)
            have hk3 := hk2.below hb3 hk2.lt
            have hbel3 := hbel2.trans (hb3.mono hz2)
            have hz3 := hbel3.size
            have hv3 := vi_len data.length
            go_wp2_with (first
              | (at_builtin
                 refine append_bytes rfl _ _ rfl hown3 rfl (vi data.length) rfl hn3.out hr3 (by rw [List.length_append]; omega) hz3 ?_; intro v4 w4 ho4 hg4 ha4
                 obtain ⟨A4, n4, c4, rfl, hn4, hl4, hq4, hr4⟩ := ho4.form2
                 have hk4 := hk3.grown hg4 (own_blk_ne hown3 hk3 (by decide)).symm
                 obtain ⟨k0, k1, k2, k3⟩ := blk4 hk4
                 have hbel4 := grown_below hown3 hg4 hz3 (Nat.le_refl _) hbel3
                 have hz4 := hbel4.size)
              | (at_builtin
                 have hrd4 := hrd.below hbel4
                 go_must (refine append_bytes rfl _ _ rfl ho4 rfl data rfl rfl hrd4 (by rw [List.length_append, List.length_append]; omega) hz4 ?_; intro v5 w5 ho5 hg5 ha5)
                 obtain ⟨A5, n5, c5, rfl, hn5, hl5, hq5, hr5⟩ := ho5.form2
                 have hbel5 := grown_below ho4 hg5 hz4 (Nat.le_refl _) hbel4))
            · have hbig : 4194304 < (n5 : Int) := by assumption
              have hw4 : Go.Proofs.Ythhanpfcnaokpaa.wr (fs.take (k + 1)) = Go.Proofs.Ythhanpfcnaokpaa.wr (fs.take k) ++ vi (m * 8 + 2) ++ vi data.length ++ data := by rw [HT.out, HM.out]; simp
              have HE : writeE fs = ([], 8) := by
                unfold writeE
                rw [if_pos (List.all_eq_true.2 HA.out), if_pos]
                have h1 := HL.out; have h2 := hn5.out; rw [hw4] at h1; omega
              go_ret2
              exact WriteR.mk HE (OB.nil _ _) (hbel5)
            · have hw4 : Go.Proofs.Ythhanpfcnaokpaa.wr (fs.take (k + 1)) = Go.Proofs.Ythhanpfcnaokpaa.wr (fs.take k) ++ vi (m * 8 + 2) ++ vi data.length ++ data := by rw [HT.out, HM.out]; simp
              have hsm : (n5 : Int) ≤ 4194304 := by assumption
              go_roundw
              case rel => exact ⟨k + 1, by omega, by go_num, by rw [hw4]; have := hn5.out; omega, by rw [hw4]; exact ho5, hbel5⟩
              case measure => simp [intOf]; omega
        · have hk' : k = fs.length := by omega
          subst hk'
          have HE : writeE fs = (Go.Proofs.Ythhanpfcnaokpaa.wr fs, 0) := by
            unfold writeE
            rw [List.take_length] at hlen
            rw [if_pos (List.all_eq_true.2 HA.out), if_neg (by omega)]
          rw [List.take_length] at hown
          have HEE := Lib.hid HE
          clear HE
          go_wp2
          go_ret2
          exact WriteR.mk HEE.out hown hbel
end Go.Proofs.Ythhanpfcnaokpaa
