/- The contract of the document's Ints. -/
import Derived.Test.YthhanpfcnaokpaaNumP
namespace Go.Proofs.Ythhanpfcnaokpaa
open Go.RowKit

set_option maxRecDepth 100000 in
set_option maxHeartbeats 1600000 in
theorem rints_any (A : Option Addr) (cap : Nat) (fs : List Fld) (num : Int) (w : World) (hb : RF w w.heap.size A fs) (hfl : fs.length + 1 ≤ 2900000000000) (hbulk : bulkF fs + 1 ≤ 17592186044416) :
    Calls Try.prog 34 #[.slice A fs.length cap, .int .i64 num] w (NR .u64 23 w (ints num fs)) := by
  rw [ints_gat]
  go_enter Try.func34, Try.ntmps34
  go_wp2_with fail
  refine (rall_any A cap fs num w hfl hb).mono ?_
  rintro e w1 ⟨v, rfl, ho, hb1⟩
  obtain ⟨A1, n1, c1, rfl, hn1, hl1, hm1, hr1⟩ := ho.form hb1.size
  have hbk : bulkF (sel num fs) + 1 ≤ 17592186044416 := by have := bulk_sel num fs; omega
  have hS := hb1
  clear hb ho hbulk hfl
  generalize sel num fs = gs at *
  unfold maxLen at hm1
  go_wp2
  go_loopw [7, 8] (fun out i wr => GNrel ints0 gs .u64 23 w1 out i wr) (fun _ i _ => gs.length - (intOf i).toNat)
  case atStart => exact ⟨0, [], rfl, GN.start _ _, ON.nil _ _ _ _, Below.refl _ _⟩
  case round =>
    obtain ⟨k, xs, rfl, hin, hown, hbel⟩ := hrel
    have hsz := hbel.size
    have hk := hin.1
    have hxl : xs.length ≤ bulkF gs := by have := hin.2.1; omega
    by_cases hlt : k < gs.length
    · obtain ⟨b, off, dv, rfl, hbb, hdv, a0', a1', a2', a3'⟩ := hr1.at_ hlt
      have a0 := (hbel.cell (p := ⟨b, _, none⟩) hbb).trans a0'
      have a1 := (hbel.cell (p := ⟨b, _, none⟩) hbb).trans a1'
      have a2 := (hbel.cell (p := ⟨b, _, none⟩) hbb).trans a2'
      have a3 := (hbel.cell (p := ⟨b, _, none⟩) hbb).trans a3'
      have HB := Lib.hid (hin.bad hlt)
      have HS := Lib.hid (fun a => hin.step (a := a) hlt)
      obtain ⟨Ad, cd, rfl, hld, hmd, hrd⟩ := hdv
      have hdb : xs.length + gs[k].data.length + 1 ≤ bulkF gs := hin.room hlt
      have hlt' : (k : Int) < (n1 : Int) := by omega
      clear hin
      generalize gs[k] = f at *
      obtain ⟨fnum, wire, x, data⟩ := f
      dsimp only at *
      by_cases hw0 : wire = 0
      · subst hw0
        have HV : Hid (ints0 ⟨fnum, 0, x, data⟩ = some [x]) := by show _ = _; simp [ints0]
        go_wp2_with (at_builtin
                     go_must (refine append_num (by kernel_rfl) info_64 (Nat.le_refl _) rfl _ _ rfl hown rfl rfl rfl x rfl (by omega) (by omega) ?_; intro v2 w2 ho2 hg2 ha2))
        go_roundw
        case rel => exact ⟨k + 1, _, by go_num, HS.out _ HV.out (by simp), ho2, hown.grownB hg2 hsz (Nat.le_refl _) hbel⟩
        case measure => simp [intOf]; omega
      · by_cases hw2 : wire = 2
        · subst hw2
          have HV : Hid (ints0 ⟨fnum, 2, x, data⟩ = vs data) := by show _ = _; simp [ints0]
          go_wp2
          go_loopw [7, 9] (fun out p wr' => VTrel data xs w1 out p wr') (fun _ p _ => data.length - (intOf p).toNat)
          case atStart => exact ⟨0, [], rfl, VS.start _, by rw [List.append_nil]; exact hown, hbel⟩
          case round =>
            clear hown a0 a1 a2 a3
            obtain ⟨q, ys, rfl, hvs, hown, hbel1⟩ := hrel
            have a3 := (hbel1.cell (p := ⟨b, _, none⟩) hbb).trans a3'
            have hz1 := hbel1.size
            have hq1 := hvs.1
            have hq2 := hvs.2.1
            have hxy : (xs ++ ys).length ≤ bulkF gs := by rw [List.length_append]; omega
            have hr1' := (hrd.below hbel1)
            by_cases hend : q < data.length
            · cases ht : rdv 0 (data.drop q) with
              | none =>
                have HR := Lib.hid (rvar_none hq1 ht)
                have HN := Lib.hid (hvs.none_ hend ht)
                clear ht
                go_wp2_with fail
                refine (rrdvar_at HR hld hmd hr1').mono ?_
                rintro e w' ⟨rfl, rfl⟩
                go_wp2
                go_ret2
                exact NR.after hS (NR.bad (HB.out (by rw [HV.out, HN.out])) hbel1)
              | some r =>
                obtain ⟨y, n⟩ := r
                have HR := Lib.hid (rvar_some hq1 ht)
                have HM := Lib.hid (hvs.more hend ht)
                have hn := rdv_len _ _ _ _ ht
                rw [List.length_drop] at hn
                clear ht
                go_wp2_with fail
                refine (rrdvar_at HR hld hmd hr1').mono ?_
                rintro e w' ⟨rfl, rfl⟩
                go_wp2_with (at_builtin
                             go_must (refine append_num (by kernel_rfl) info_64 (Nat.le_refl _) rfl _ _ rfl hown rfl rfl rfl y rfl (by omega) (by omega) ?_; intro v2 w2 ho2 hg2 ha2))
                go_roundw
                case rel => exact ⟨q + n, ys ++ [y], by go_num, HM.out, by rw [← List.append_assoc]; exact ho2, hown.grownB hg2 hz1 (Nat.le_refl _) hbel1⟩
                case measure => simp [intOf]; omega
            · have HL := Lib.hid (hvs.last (by omega))
              go_wp2
              go_roundw
              case rel => exact ⟨k + 1, _, by go_num, HS.out ys (by rw [HV.out, HL.out]) (by show ys.length ≤ data.length + 1; omega), hown, hbel1⟩
              case measure => simp [intOf]; omega
        · have HV : Hid (ints0 ⟨fnum, wire, x, data⟩ = none) := by show _ = _; simp [ints0, hw0, hw2]
          go_wp2
          go_ret2
          exact NR.after hS (NR.bad (HB.out HV.out) hbel)
    · have HL := Lib.hid (hin.last (by omega))
      have hlt' : ¬ (k : Int) < (n1 : Int) := by omega
      go_wp2
      go_ret2
      exact NR.after hS (NR.good HL.out hown hbel)
end Go.Proofs.Ythhanpfcnaokpaa
