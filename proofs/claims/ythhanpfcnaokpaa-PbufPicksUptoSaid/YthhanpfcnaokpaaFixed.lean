/- The contract of pbuf.Fixed. -/
import Derived.Test.YthhanpfcnaokpaaRInts
namespace Go.Proofs.Ythhanpfcnaokpaa
open Go.RowKit

theorem info_32 : (Try.prog.info? 68).map (fun i => (i.zero, i.size, i.bytes)) = some (some (.int .u32 0), 1, 4) := by kernel_rfl
theorem wrap32 (x : Nat) : IntKind.u32.wrap (x : Int) = ((x % 4294967296 : Nat) : Int) := by
  simp [IntKind.wrap, IntKind.bits, IntKind.signed]

def FTrel (l : List UInt8) (xs : List Nat) (g : Nat) (cs : Array Value) (w : World) (out p : Value) (wr : World) : Prop :=
  ∃ q : Nat, p = .int .i64 ((4 * q : Nat) : Int) ∧ 4 * q ≤ l.length ∧ ON .u32 wr w.heap.size 68 out (xs ++ fours l q) ∧ Below w.heap.size w wr ∧ Blk wr g 40 cs

set_option maxRecDepth 100000 in
set_option maxHeartbeats 1600000 in
theorem fixd_any (A : Option Addr) (cap : Nat) (fs : List Fld) (num : Int) (w : World) (hm : cap ≤ maxLen) (hcap : fs.length ≤ cap) (hb : RF w w.heap.size A fs) (hbulk : bulkF fs + 1 ≤ 17592186044416) :
    Calls Try.prog 35 #[.slice A fs.length cap, .int .i64 num] w (NR .u32 68 w (gat (fixs1 num) fs)) := by
  unfold maxLen at hm
  go_enter Try.func35, Try.ntmps35
  go_wp2
  go_loopw [6, 12] (fun out i wr => GNrel (fixs1 num) fs .u32 68 w out i wr) (fun _ i _ => fs.length - (intOf i).toNat)
  case atStart => exact ⟨0, [], rfl, GN.start _ _, ON.nil _ _ _ _, Below.refl _ _⟩
  case round =>
    obtain ⟨k, xs, rfl, hin, hown, hbel⟩ := hrel
    have hsz := hbel.size
    have hk := hin.1
    have hxl : xs.length ≤ bulkF fs := by have := hin.2.1; omega
    by_cases hlt : k < fs.length
    · obtain ⟨b, off, dv, rfl, hbb, hdv, a0', a1', a2', a3'⟩ := hb.at_ hlt
      have a0 := (hbel.cell (p := ⟨b, _, none⟩) hbb).trans a0'
      have a1 := (hbel.cell (p := ⟨b, _, none⟩) hbb).trans a1'
      have a2 := (hbel.cell (p := ⟨b, _, none⟩) hbb).trans a2'
      have a3 := (hbel.cell (p := ⟨b, _, none⟩) hbb).trans a3'
      clear a0' a1' a2' a3'
      have HB := Lib.hid (hin.bad hlt)
      have HS := Lib.hid (fun a => hin.step (a := a) hlt)
      obtain ⟨Ad, cd, rfl, hld, hmd, hrd⟩ := hdv
      have hdb : xs.length + fs[k].data.length + 1 ≤ bulkF fs := hin.room hlt
      clear hin
      generalize fs[k] = f at *
      obtain ⟨fnum, wire, x, data⟩ := f
      dsimp only at *
      by_cases hnum : fnum = num
      · subst hnum
        have hq : (fnum != fnum) = false := by simp
        by_cases hw0 : wire = 5
        · subst hw0
          have HV : Hid (fixs1 fnum ⟨fnum, 5, x, data⟩ = some [x % 4294967296]) := by show _ = _; simp [fixs1, fixs0]
          go_wp2_with (at_builtin
                       go_must (refine append_num (by kernel_rfl) info_32 (by decide) rfl _ _ rfl (hown.alloc _) rfl rfl (by simp) (x % 4294967296) (wrap32 x) (by omega) (by simp; omega) ?_; intro v2 w2 ho2 hg2 ha2))
          go_roundw
          case rel => exact ⟨k + 1, _, by go_num, HS.out _ HV.out (by simp), ho2, (hown.alloc _).grownB hg2 (by simp; omega) (Nat.le_refl _) (hbel.alloc hsz _)⟩
          case measure => simp [intOf]; omega
        · by_cases hw2 : wire = 2
          · subst hw2
            by_cases hr4 : data.length % 4 = 0
            · have HV : Hid (fixs1 fnum ⟨fnum, 2, x, data⟩ = some (fours data (data.length / 4))) := by show _ = _; simp [fixs1, fixs0, hr4]
              have hr4' : (((data.length : Int) % 4) == 0) = true := by simp; omega
              go_wp2
              go_loopw [6, 9] (fun out p wr' => FTrel data xs wr.heap.size #[.int .i64 fnum, .int .i64 2, .int .u64 x, .slice Ad data.length cd] w out p wr') (fun _ p _ => data.length - (intOf p).toNat)
              case atStart => exact ⟨0, rfl, by omega, by simp [fours]; exact hown.alloc _, hbel.alloc hsz _, Blk.new _ _ _⟩
              case round =>
                clear hown
                obtain ⟨q, rfl, hq1, hown, hbel1, hblk⟩ := hrel
                obtain ⟨g0, g1, g2, g3⟩ := blk4 hblk
                have hz1 := hbel1.size
                have hxy : (xs ++ fours data q).length ≤ bulkF fs := by rw [List.length_append, fours_len]; omega
                have hr1 := (hrd.below hbel1)
                by_cases hend : 4 * q < data.length
                · have HF := Lib.hid (fours_succ data q)
                  have h4 := four_lt data q
                  have hc := (hr1.cut (k := 4 * q) (by omega) hld).take 4
                  rw [if_neg (by omega)] at hc
                  have HL : Hid (((data.drop (4 * q)).take 4).length = 4) := by show _ = _; simp; omega
                  go_wp2_with fail
                  refine (little_n HL (by omega) hc).mono ?_
                  rintro e w' ⟨rfl, rfl⟩
                  go_wp2_with (at_builtin
                               go_must (refine append_num (by kernel_rfl) info_32 (by decide) rfl _ _ rfl hown rfl rfl rfl (lit8 ((data.drop (4 * q)).take 4)) rfl (by omega) (by omega) ?_; intro v2 w2 ho2 hg2 ha2))
                  go_roundw
                  case rel => exact ⟨q + 1, by go_num, by omega, by rw [HF.out, ← List.append_assoc]; exact ho2, hown.grownB hg2 hz1 (Nat.le_refl _) hbel1, hblk.grown hg2 (own_blk_ne hown hblk (by decide)).symm⟩
                  case measure => simp [intOf]; omega
                · have HL : Hid (q = data.length / 4) := by show _ = _; omega
                  go_wp2
                  go_roundw
                  case rel => exact ⟨k + 1, _, by go_num, HS.out _ HV.out (by show (fours data _).length ≤ data.length + 1; rw [fours_len]; omega), by rw [← HL.out]; exact hown, hbel1⟩
                  case measure => simp [intOf]; omega
            · have HV : Hid (fixs1 fnum ⟨fnum, 2, x, data⟩ = none) := by show _ = _; simp [fixs1, fixs0, hr4]
              have hr4' : (((data.length : Int) % 4) == 0) = false := by simp; omega
              go_wp2
              go_ret2
              exact NR.bad (HB.out HV.out) (hbel.alloc hsz _)
          · have HV : Hid (fixs1 fnum ⟨fnum, wire, x, data⟩ = none) := by show _ = _; simp [fixs1, fixs0, hw0, hw2]
            go_wp2
            go_ret2
            exact NR.bad (HB.out HV.out) (hbel.alloc hsz _)
      · have hq : (fnum != num) = true := by simpa using hnum
        have HV : Hid (fixs1 num ⟨fnum, wire, x, data⟩ = some []) := by show _ = _; simp [fixs1, hnum]
        go_wp2
        go_roundw
        case rel => exact ⟨k + 1, _, by go_num, HS.out [] HV.out (by simp), by rw [List.append_nil]; exact hown.alloc _, hbel.alloc hsz _⟩
        case measure => simp [intOf]; omega
    · have HL := Lib.hid (hin.last (by omega))
      go_wp2
      go_ret2
      exact NR.good HL.out hown hbel
end Go.Proofs.Ythhanpfcnaokpaa
