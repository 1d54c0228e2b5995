/- The contract of the document's All: the fields of one number, their bytes shared. -/
import Derived.Test.YthhanpfcnaokpaaPlainF
import Derived.Test.YthhanpfcnaokpaaJoinK
namespace Go.Proofs.Ythhanpfcnaokpaa
open Go.RowKit

/-- the fields of one number -/
def sel (num : Int) (fs : List Fld) : List Fld := fs.filter fun f => decide (f.num = num)
theorem sel_snoc_yes {num : Int} {fs : List Fld} {k : Nat} (h : k < fs.length) (hn : fs[k].num = num) : sel num (fs.take (k + 1)) = sel num (fs.take k) ++ [fs[k]] := by
  unfold sel; rw [List.take_succ_eq_append_getElem h, List.filter_append, List.filter_cons, if_pos (by simpa using hn), List.filter_nil]
theorem sel_snoc_no {num : Int} {fs : List Fld} {k : Nat} (h : k < fs.length) (hn : ¬ fs[k].num = num) : sel num (fs.take (k + 1)) = sel num (fs.take k) := by
  unfold sel; rw [List.take_succ_eq_append_getElem h, List.filter_append, List.filter_cons, if_neg (by simpa using hn), List.filter_nil, List.append_nil]
theorem sel_len (num : Int) (fs : List Fld) : (sel num fs).length ≤ fs.length := List.length_filter_le _ _
theorem sel_take_len (num : Int) (fs : List Fld) (k : Nat) : (sel num (fs.take k)).length ≤ k := by
  have := sel_len num (fs.take k)
  rw [List.length_take] at this
  omega
def ALrel (B : Nat) (num : Int) (fs : List Fld) (w : World) (out i : Value) (wr : World) : Prop := ∃ k : Nat, k ≤ fs.length ∧ i = .int .i64 (k : Int) ∧ OFD (DV w B) wr w.heap.size 55 out (sel num (fs.take k)) ∧ Below w.heap.size w wr

set_option maxRecDepth 100000 in
set_option maxHeartbeats 800000 in
theorem rall_B (B : Nat) (A : Option Addr) (cap : Nat) (fs : List Fld) (num : Int) (w : World) (hfl : fs.length + 1 ≤ 2900000000000) (hb : RF w B A fs) (hB : B ≤ w.heap.size) :
    Calls Try.prog 33 #[.slice A fs.length cap, .int .i64 num] w fun e w' => ∃ v, e = .returned v ∧ OFR B w' w.heap.size 55 v (sel num fs) ∧ Below w.heap.size w w' := by
  go_enter Try.func33, Try.ntmps33
  go_wp2
  go_loopw [5, 6] (fun out i wr => ALrel B num fs w out i wr) (fun _ i _ => fs.length - (intOf i).toNat)
  case atStart => exact ⟨0, Nat.zero_le _, rfl, OFD.nil _ _ _, Below.refl _ _⟩
  case round =>
    obtain ⟨k, hk, rfl, hown, hbel⟩ := hrel
    have hsz := hbel.size
    by_cases hlt : k < fs.length
    · obtain ⟨b, off, dv, rfl, hbb, hdv, a0', a1', a2', a3'⟩ := hb.at_ hlt
      have a0 := (hbel.cell (p := ⟨b, _, none⟩) (Nat.lt_of_lt_of_le hbb hB)).trans a0'
      have a1 := (hbel.cell (p := ⟨b, _, none⟩) (Nat.lt_of_lt_of_le hbb hB)).trans a1'
      have a2 := (hbel.cell (p := ⟨b, _, none⟩) (Nat.lt_of_lt_of_le hbb hB)).trans a2'
      have a3 := (hbel.cell (p := ⟨b, _, none⟩) (Nat.lt_of_lt_of_le hbb hB)).trans a3'
      clear a0' a1' a2' a3'
      have HD := Lib.hid hdv
      have hkl : (k : Int) < (fs.length : Int) := by omega
      obtain ⟨Ad, cd, rfl, hld, hmd, hrd⟩ := hdv
      have HY := Lib.hid (sel_snoc_yes (num := num) hlt)
      have HN := Lib.hid (sel_snoc_no (num := num) hlt)
      have hlk : (sel num (fs.take k)).length ≤ k := sel_take_len _ _ _
      generalize fs[k] = f at *
      obtain ⟨fnum, wire, x, data⟩ := f
      dsimp only at *
      by_cases hnum : fnum = num
      · subst hnum
        have HY := Lib.hid (HY.out rfl)
        go_wp2_with (at_builtin
                     go_must (refine append_fieldD (D' := DV w B) 35 55 (by kernel_rfl) info_rf (by rfl) _ _ (by rfl) hown (by rfl) (by rfl) rfl ⟨fnum, wire, x, data⟩ rfl rfl rfl ⟨_, _, _, rfl⟩ (by omega) hsz ?_; intro v2 w2 ho2 hg2 ha2))
        go_roundw
        case rel => exact ⟨k + 1, by omega, by go_num, by rw [HY.out]; exact ho2 HD.out (fun _ _ h => h), grown_belowF hown hg2 hsz (Nat.le_refl _) hbel⟩
        case measure => simp [intOf]; omega
      · go_wp2
        go_roundw
        case rel => exact ⟨k + 1, by omega, by go_num, by rw [HN.out hnum]; exact hown, hbel⟩
        case measure => simp [intOf]; omega
    · have hk' : k = fs.length := by omega
      subst hk'
      rw [List.take_length] at hown
      go_wp2
      go_ret
      exact ⟨u5, rfl, by obtain ⟨ds, h1, h2, h3⟩ := hown; exact ⟨ds, h1, h2, fun i a b => (h3 i a b).below (hbel.mono hB)⟩, hbel⟩
theorem rall_any (A : Option Addr) (cap : Nat) (fs : List Fld) (num : Int) (w : World) (hfl : fs.length + 1 ≤ 2900000000000) (hb : RF w w.heap.size A fs) :
    Calls Try.prog 33 #[.slice A fs.length cap, .int .i64 num] w fun e w' => ∃ v, e = .returned v ∧ OFR w.heap.size w' w.heap.size 55 v (sel num fs) ∧ Below w.heap.size w w' :=
  rall_B w.heap.size A cap fs num w hfl hb (Nat.le_refl _)
end Go.Proofs.Ythhanpfcnaokpaa
