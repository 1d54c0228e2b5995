/- The contract of pbuf.All: the fields of one number, their bytes copied. -/
import Derived.Test.YthhanpfcnaokpaaRFixed
import Derived.Test.YthhanpfcnaokpaaMut
namespace Go.Proofs.Ythhanpfcnaokpaa
open Go.RowKit

theorem data_bulk : ∀ {fs : List Fld} {k : Nat} (h : k < fs.length), fs[k].data.length + 1 ≤ bulkF fs
  | [], _, h => absurd h (Nat.not_lt_zero _)
  | f :: fs, 0, _ => by simp only [bulkF, List.getElem_cons_zero]; omega
  | f :: fs, k + 1, h => by
    have := data_bulk (fs := fs) (k := k) (by simpa using h)
    simp only [bulkF, List.getElem_cons_succ]; omega
def AArel (num : Int) (fs : List Fld) (w : World) (out i : Value) (wr : World) : Prop := ∃ k : Nat, k ≤ fs.length ∧ i = .int .i64 (k : Int) ∧ OF wr w.heap.size 40 out (sel num (fs.take k)) ∧ Below w.heap.size w wr

set_option maxRecDepth 100000 in
set_option maxHeartbeats 1600000 in
theorem all_any (A : Option Addr) (cap : Nat) (fs : List Fld) (num : Int) (w : World) (hfl : fs.length + 1 ≤ 2900000000000) (hbulk : bulkF fs + 1 ≤ 17592186044416) (hb : RF w w.heap.size A fs) :
    Calls Try.prog 28 #[.slice A fs.length cap, .int .i64 num] w fun e w' => ∃ v, e = .returned v ∧ OF w' w.heap.size 40 v (sel num fs) ∧ Below w.heap.size w w' := by
  go_enter Try.func28, Try.ntmps28
  go_wp2
  go_loopw [5, 10] (fun out i wr => AArel num fs w out i wr) (fun _ i _ => fs.length - (intOf i).toNat)
  case atStart => exact ⟨0, Nat.zero_le _, rfl, OF.nil _ _ _, Below.refl _ _⟩
  case round =>
    obtain ⟨k, hk, rfl, hown, hbel⟩ := hrel
    have hsz := hbel.size
    by_cases hlt : k < fs.length
    · obtain ⟨b, off, dv, rfl, hbb, hdv, a0', a1', a2', a3'⟩ := hb.at_ hlt
      have a0 := (hbel.cell (p := ⟨b, _, none⟩) hbb).trans a0'
      have a1 := (hbel.cell (p := ⟨b, _, none⟩) hbb).trans a1'
      have a2 := (hbel.cell (p := ⟨b, _, none⟩) hbb).trans a2'
      have a3 := (hbel.cell (p := ⟨b, _, none⟩) hbb).trans a3'
      clear a0' a1' a2' a3'
      have hkl : (k : Int) < (fs.length : Int) := by omega
      obtain ⟨Ad, cd, rfl, hld, hmd, hrd⟩ := hdv
      have HY := Lib.hid (sel_snoc_yes (num := num) hlt)
      have HN := Lib.hid (sel_snoc_no (num := num) hlt)
      have hlk : (sel num (fs.take k)).length ≤ k := sel_take_len _ _ _
      have hdb := data_bulk hlt
      generalize fs[k] = f at *
      obtain ⟨fnum, wire, x, data⟩ := f
      dsimp only at *
      by_cases hnum : fnum = num
      · subst hnum
        have HY := Lib.hid (HY.out rfl)
        have hr1 := ((hrd.below hbel).more hsz)
        have hmk : OB ((wr.alloc (.cells #[.int .i64 fnum, .int .i64 wire, .int .u64 x, .slice Ad data.length cd] 40)).alloc (.cells #[] 5)) (wr.heap.size + 1) (.slice (some ⟨wr.heap.size + 1, 0, none⟩) 0 0) [] := by
          have := OB.made (wr.alloc (.cells #[.int .i64 fnum, .int .i64 wire, .int .u64 x, .slice Ad data.length cd] 40)) (wr.heap.size + 1) (by simp)
          simpa using this
        go_wp2_with (first
          | (at_builtin; refine append_bytes rfl _ _ rfl hmk rfl data rfl rfl ((hr1.alloc (Nat.le_refl _) _).alloc (by simp) _) (by simp; omega) (by simp) ?_; intro v2 w2 ho2 hg2 ha2
             have hk2 : Blk w2 wr.heap.size 40 #[.int .i64 fnum, .int .i64 wire, .int .u64 x, .slice Ad data.length cd] := ((Blk.new wr _ _).alloc _).grown hg2 (by simp [Value.ownBlock])
             obtain ⟨g0, g1, g2, g3⟩ := blk4 hk2
             have f3 := hk2.frozen 3
             have hb2 : Below wr.heap.size wr w2 := (((Below.refl wr.heap.size wr).alloc (Nat.le_refl _) _).alloc (by simp) _).grown hg2 (by simp; omega) (by simp [Value.ownBlock])
             obtain ⟨A2, n2, c2, rfl, hn2, -⟩ := ho2.form2)
          | (at_builtin
             have hbw := hb2.setCell (p := ⟨wr.heap.size, 3, none⟩) (Nat.le_refl _) (.slice A2 n2 c2)
             have ho3 := (ho2.setLow (p := ⟨wr.heap.size, 3, none⟩) (by simp) (.slice A2 n2 c2))
             go_must (refine append_field 32 40 (by kernel_rfl) info_f (by decide) rfl _ _ rfl hown hbw rfl rfl (by simp) ⟨fnum, wire, x, data⟩ rfl rfl rfl (ho3.mono (by simp)) (by omega) hsz ?_; intro v' w' ho hg ha)))
        go_roundw
        case rel => exact ⟨k + 1, by omega, by go_num, by rw [HY.out]; exact ho, grown_belowF (hown.below hbw (Nat.le_refl _)).ofd hg (by have := hbw.size; omega) (Nat.le_refl _) (hbel.trans (hbw.mono hsz))⟩
        case measure => simp [intOf]; omega
      · go_wp2
        go_roundw
        case rel => exact ⟨k + 1, by omega, by go_num, by rw [HN.out hnum]; exact hown.below ((Below.refl wr.heap.size wr).alloc (Nat.le_refl _) _) (Nat.le_refl _), hbel.alloc hsz _⟩
        case measure => simp [intOf]; omega
    · have hk' : k = fs.length := by omega
      subst hk'
      rw [List.take_length] at hown
      go_wp2
      go_ret
      exact ⟨u5, rfl, hown, hbel⟩
end Go.Proofs.Ythhanpfcnaokpaa
