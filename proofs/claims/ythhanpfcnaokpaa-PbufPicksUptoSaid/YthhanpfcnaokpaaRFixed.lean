/- The contract of the document's Fixed. -/
import Derived.Test.YthhanpfcnaokpaaFixed
namespace Go.Proofs.Ythhanpfcnaokpaa
open Go.RowKit

def FRrel (l : List UInt8) (xs : List Nat) (w : World) (out p : Value) (wr : World) : Prop :=
  ∃ q : Nat, p = .int .i64 ((4 * q : Nat) : Int) ∧ 4 * q ≤ l.length ∧ ON .u32 wr w.heap.size 68 out (xs ++ fours l q) ∧ Below w.heap.size w wr

set_option maxRecDepth 100000 in
set_option maxHeartbeats 1600000 in
theorem rfixd_any (A : Option Addr) (cap : Nat) (fs : List Fld) (num : Int) (w : World) (hb : RF w w.heap.size A fs) (hfl : fs.length + 1 ≤ 2900000000000) (hbulk : bulkF fs + 1 ≤ 17592186044416) :
    Calls Try.prog 36 #[.slice A fs.length cap, .int .i64 num] w (NR .u32 68 w (gat (fixs1 num) fs)) := by
  rw [fixs_gat]
  go_enter Try.func36, Try.ntmps36
  go_wp2_with fail
  refine (rall_any A cap fs num w hfl hb).mono ?_
  rintro e w1 ⟨v, rfl, ho, hb1⟩
  obtain ⟨A1, n1, c1, rfl, hn1, hl1, hm1, hr1⟩ := ho.form hb1.size
  have hbk : bulkF (sel num fs) + 1 ≤ 17592186044416 := by have := bulk_sel num fs; omega
  have hS := hb1
  clear hb ho hbulk hfl
  generalize sel num fs = gs at *
  unfold maxLen at hm1
  go_wp2
  go_loopw [7, 8] (fun out i wr => GNrel fixs0 gs .u32 68 w1 out i wr) (fun _ i _ => gs.length - (intOf i).toNat)
  case atStart => exact ⟨0, [], rfl, GN.start _ _, ON.nil _ _ _ _, Below.refl _ _⟩
  case round =>
    obtain ⟨k, xs, rfl, hin, hown, hbel⟩ := hrel
    have hsz := hbel.size
    have hk := hin.1
    have hxl : xs.length ≤ bulkF gs := by have := hin.2.1; omega
    by_cases hlt : k < gs.length
    · obtain ⟨b, off, dv, rfl, hbb, hdv, a0', a1', a2', a3'⟩ := hr1.at_ hlt
      have a0 := (hbel.cell (p := ⟨b, _, none⟩) hbb).trans a0'
      have a1 := (hbel.cell (p := ⟨b, _, none⟩) hbb).trans a1'
      have a2 := (hbel.cell (p := ⟨b, _, none⟩) hbb).trans a2'
      have a3 := (hbel.cell (p := ⟨b, _, none⟩) hbb).trans a3'
      have HB := Lib.hid (hin.bad hlt)
      have HS := Lib.hid (fun a => hin.step (a := a) hlt)
      obtain ⟨Ad, cd, rfl, hld, hmd, hrd⟩ := hdv
      have hdb : xs.length + gs[k].data.length + 1 ≤ bulkF gs := hin.room hlt
      have hlt' : (k : Int) < (n1 : Int) := by omega
      clear hin
      generalize gs[k] = f at *
      obtain ⟨fnum, wire, x, data⟩ := f
      dsimp only at *
      by_cases hw0 : wire = 5
      · subst hw0
        have HV : Hid (fixs0 ⟨fnum, 5, x, data⟩ = some [x % 4294967296]) := by show _ = _; simp [fixs0]
        go_wp2_with (at_builtin
                     go_must (refine append_num (by kernel_rfl) info_32 (by decide) rfl _ _ rfl hown rfl rfl rfl (x % 4294967296) (wrap32 x) (by omega) (by omega) ?_; intro v2 w2 ho2 hg2 ha2))
        go_roundw
        case rel => exact ⟨k + 1, _, by go_num, HS.out _ HV.out (by simp), ho2, hown.grownB hg2 hsz (Nat.le_refl _) hbel⟩
        case measure => simp [intOf]; omega
      · by_cases hw2 : wire = 2
        · subst hw2
          by_cases hr4 : data.length % 4 = 0
          · have HV : Hid (fixs0 ⟨fnum, 2, x, data⟩ = some (fours data (data.length / 4))) := by show _ = _; simp [fixs0, hr4]
            have hr4' : (((data.length : Int) % 4) != 0) = false := by simp; omega
            go_wp2
            go_loopw [7, 9] (fun out p wr' => FRrel data xs w1 out p wr') (fun _ p _ => data.length - (intOf p).toNat)
            case atStart => exact ⟨0, rfl, by omega, by simp [fours]; exact hown, hbel⟩
            case round =>
              clear hown a0 a1 a2 a3
              obtain ⟨q, rfl, hq1, hown, hbel1⟩ := hrel
              have a3 := (hbel1.cell (p := ⟨b, _, none⟩) hbb).trans a3'
              have hz1 := hbel1.size
              have hxy : (xs ++ fours data q).length ≤ bulkF gs := by rw [List.length_append, fours_len]; omega
              have hr1' := (hrd.below hbel1)
              by_cases hend : 4 * q < data.length
              · have HF := Lib.hid (fours_succ data q)
                have h4 := four_lt data q
                have hc := (hr1'.cut (k := 4 * q) (by omega) hld).take 4
                rw [if_neg (by omega)] at hc
                have HL : Hid (((data.drop (4 * q)).take 4).length = 4) := by show _ = _; simp; omega
                go_wp2_with fail
                refine (rlittle_n HL (by omega) hc).mono ?_
                rintro e w' ⟨rfl, rfl⟩
                go_wp2_with (at_builtin
                             go_must (refine append_num (by kernel_rfl) info_32 (by decide) rfl _ _ rfl hown rfl rfl rfl (lit8 ((data.drop (4 * q)).take 4)) rfl (by omega) (by omega) ?_; intro v2 w2 ho2 hg2 ha2))
                go_roundw
                case rel => exact ⟨q + 1, by go_num, by omega, by rw [HF.out, ← List.append_assoc]; exact ho2, hown.grownB hg2 hz1 (Nat.le_refl _) hbel1⟩
                case measure => simp [intOf]; omega
              · have HL : Hid (q = data.length / 4) := by show _ = _; omega
                go_wp2
                go_roundw
                case rel => exact ⟨k + 1, _, by go_num, HS.out _ HV.out (by show (fours data _).length ≤ data.length + 1; rw [fours_len]; omega), by rw [← HL.out]; exact hown, hbel1⟩
                case measure => simp [intOf]; omega
          · have HV : Hid (fixs0 ⟨fnum, 2, x, data⟩ = none) := by show _ = _; simp [fixs0, hr4]
            have hr4' : (((data.length : Int) % 4) != 0) = true := by simp; omega
            go_wp2
            go_ret2
            exact NR.after hS (NR.bad (HB.out HV.out) hbel)
        · have HV : Hid (fixs0 ⟨fnum, wire, x, data⟩ = none) := by show _ = _; simp [fixs0, hw0, hw2]
          go_wp2
          go_ret2
          exact NR.after hS (NR.bad (HB.out HV.out) hbel)
    · have HL := Lib.hid (hin.last (by omega))
      have hlt' : ¬ (k : Int) < (n1 : Int) := by omega
      go_wp2
      go_ret2
      exact NR.after hS (NR.good HL.out hown hbel)
end Go.Proofs.Ythhanpfcnaokpaa
