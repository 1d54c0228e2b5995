/- Rows of fused steps: the program's row and the document's. -/
import Derived.Test.YtegeadkilolngaaMRdB
import Derived.Test.YtegeadkilolngaaMRg
import Derived.Test.YtegeadkilolngaaMNat
namespace Go.Proofs.Ytegeadkilolngaa
open Go.RowKit

/-- a polynomial's value, step by step -/
def rowP (z : Nat) (l : List Nat) : Nat := l.tail.foldl (fun p c => fmaP 0 z p c) (l.headD 0)
theorem rowP_cons (z c : Nat) (t : List Nat) : rowP z (c :: t) = t.foldl (fun p c => fmaP 0 z p c) c := rfl
theorem foldl_take {z : Nat} {l : List Nat} {c k : Nat} (h : k < l.length) : (l.take (k + 1)).foldl (fun p c => fmaP 0 z p c) c = fmaP 0 z ((l.take k).foldl (fun p c => fmaP 0 z p c) c) l[k] := by
  rw [List.take_succ_eq_append_getElem h, List.foldl_append]
  rfl
theorem size_u32s (w : World) : (sizeOf (Try.prog.elem 29)).run Try.prog w = .ok 1 w := by kernel_rfl
theorem und_u32s : Try.prog.underlying 29 = some (.slice (Try.prog.elem 29)) := by kernel_rfl
theorem run_u32s_from (w : World) (b off len cap : Nat) (kl : IntKind) (l : Int) (h0 : 0 ≤ l) (h1 : l ≤ len) (h2 : l.toNat < cap) :
    (Instr.slice 29 (.slice (some ⟨b, off, none⟩) len cap) (some (.int kl l)) none none).run Try.prog w = .ok (.slice (some ⟨b, off + l.toNat, none⟩) (len - l.toNat) (cap - l.toNat)) w := by
  rw [run_slice_l w _ (some ⟨b, off, none⟩) len cap und_u32s kl l h0 h1, size_u32s]
  simp [Result.andThen, sliced, Addr.add]
  rw [if_neg (by omega : ¬ cap = l.toNat)]
  by_cases hl : l ≤ 0
  · rw [if_pos hl, show l.toNat = 0 from by omega, Nat.add_zero]
  · rw [if_neg hl]
attribute [local go_sem high] run_u32s_from
theorem lt_roundW (way : Int) (neg : Bool) (E : Int) (v : Nat) (l : Bool) : roundWP way neg E v l < 4294967296 := by
  unfold roundWP
  split <;> exact (okR.round _ _ _ _ _).1
theorem lt_sumC {pn cn : Bool} {pe ce : Int} {ps cs : Nat} : sumC 0 pn pe ps cn ce cs < 4294967296 := by
  unfold sumC
  dsimp only
  split
  · exact lt_roundW _ _ _ _ _
  · split
    · exact lt_roundW _ _ _ _ _
    · split
      · cases ((0 : Int) == 2) <;> decide
      · split <;> exact lt_roundW _ _ _ _ _
theorem lt_fma {a b c : Nat} (h : c < 4294967296) : fmaP 0 a b c < 4294967296 := by
  unfold fmaP
  split
  · decide
  · split
    · split
      · decide
      · cases sgnX a b <;> decide
    · split
      · exact h
      · unfold finP
        split
        · split
          · exact h
          · cases ((0 : Int) == 2) <;> decide
        · split
          · exact h
          · split
            · exact (okR.round _ _ _ _ _).1
            · unfold sumF
              split <;> exact lt_sumC
def ELrel (z : Nat) (l : List Nat) (c j : Nat) (w : World) (pv iv : Value) (wr : World) : Prop := ∃ k p : Nat, iv = .int .i64 ((k + j : Nat) : Int) ∧ k ≤ l.length ∧ pv = .int .u32 (p : Int) ∧ Hid (p = (l.take k).foldl (fun p c => fmaP 0 z p c) c) ∧ Hid (p < 4294967296) ∧ Below w.heap.size w wr
theorem fma0_at {a b c r : Nat} {w : World} (h1 : Hid (a < 4294967296)) (h2 : Hid (b < 4294967296)) (h3 : Hid (c < 4294967296)) (hr : Hid (fmaP 0 a b c = r)) :
    Calls Try.prog 38 #[.int .u32 (a : Int), .int .u32 (b : Int), .int .u32 (c : Int)] w (BR w r) := by
  have := fma0_any a b c w h1 h2 h3
  rw [hr.out] at this
  exact this
theorem rfma3_at {a b c r : Nat} {w : World} (h1 : Hid (a < 4294967296)) (h2 : Hid (b < 4294967296)) (h3 : Hid (c < 4294967296)) (hr : Hid (fmaP 0 a b c = r)) :
    Calls Try.prog 52 #[.int .u32 (a : Int), .int .u32 (b : Int), .int .u32 (c : Int)] w (BR w r) := by
  have HR := hr
  go_enter Try.func52, Try.ntmps52
  go_wp2_with fail
  refine (rfma0_any a b c _ h1 h2 h3).mono ?_
  rintro e w' ⟨rfl, hb⟩
  rw [HR.out]
  go_wp2
  go_ret
  exact ⟨rfl, hb⟩
set_option maxRecDepth 100000 in
set_option maxHeartbeats 1600000 in
theorem row_any {z n cap c : Nat} {A : Option Addr} {B : Nat} {l : List Nat} {w : World} (hz : Hid (z < 4294967296)) (hn : Hid (n = l.length + 1)) (hn1 : 2 ≤ n) (hn2 : n ≤ 1000) (hc : n ≤ cap) (hB : B ≤ w.heap.size) (ha : WR w B A (c :: l)) (hw : Hid (Wd (c :: l))) :
    Calls Try.prog 39 #[.int .u32 (z : Int), .slice A n cap] w (BR w (rowP z (c :: l))) := by
  obtain ⟨b, off, rfl, hb, a0⟩ := ha.at_ (k := 0) (by simp)
  have hp1 : 0 < n := by omega
  have hp2 : 1 ≤ n := by omega
  have hp3 : 1 < cap := by omega
  rw [Nat.add_zero] at a0
  have a0 : w.cell? ⟨b, off, none⟩ = some (.int .u32 (c : Int)) := a0
  have HC : Hid (c < 4294967296) := Lib.hid (hw.out c (by simp))
  have hq1 : (n : Int) - 1 = ((n - 1 : Nat) : Int) := by omega
  go_enter Try.func39, Try.ntmps39
  go_wp2
  go_loopw [5, 14] (fun pv iv wr => ELrel z l c 0 w pv iv wr) (fun _ iv _ => n - (intOf iv).toNat)
  case atStart => exact ⟨0, c, rfl, Nat.zero_le _, rfl, Lib.hid rfl, HC, Below.refl _ _⟩
  case round =>
    obtain ⟨k, p, rfl, hk, rfl, HP, HPL, hbel⟩ := hrel
    have hsz := hbel.size
    have hkn : ((k + 0 : Nat) : Int) = (k : Int) := rfl
    rw [hkn]
    by_cases hlt : k < l.length
    · obtain ⟨b', off', hbo, hb2, a1'⟩ := ha.at_ (k := k + 1) (by simpa using hlt)
      simp only [Option.some.injEq, Addr.mk.injEq, and_true] at hbo
      obtain ⟨rfl, rfl⟩ := hbo
      have a1 := (hbel.cell (p := ⟨b, off + (k + 1), none⟩) (by show b < w.heap.size; omega)).trans a1'
      rw [List.getElem_cons_succ] at a1
      have hck : l[k] < 4294967296 := hw.out _ (by simp)
      have HF := Lib.hid (foldl_take (z := z) (c := c) hlt)
      have hkl : k + 1 ≤ l.length := hlt
      have e1 : off + 1 + k = off + (k + 1) := by omega
      rw [← e1] at a1
      clear e1 a1'
      generalize l[k] = x at *
      have HX := Lib.hid hck
      clear hck
      have hlt' : (k : Int) < ((n - 1 : Nat) : Int) := by have := hn.out; omega
      have hlt2 : k < n - 1 := by have := hn.out; omega
      obtain ⟨r, hr⟩ : ∃ r, fmaP 0 z p x = r := ⟨_, rfl⟩
      have HRL : Hid (r < 4294967296) := Lib.hid (by rw [← hr]; exact lt_fma HX.out)
      have HR := Lib.hid hr
      have HPN : Hid (r = (l.take (k + 1)).foldl (fun p c => fmaP 0 z p c) c) := Lib.hid (by rw [HF.out, ← HP.out, hr])
      clear hr hlt
      go_wp2_with fail
      refine (fma0_at hz HPL HX HR).mono ?_
      rintro e w2 ⟨rfl, hb3⟩
      go_wp2
      go_roundw
      case rel => exact ⟨k + 1, r, by go_num, hkl, rfl, HPN, HRL, hbel.trans (hb3.mono hsz)⟩
      case measure => simp [intOf]; omega
    · have hke : k = l.length := by omega
      have HR : Hid (rowP z (c :: l) = p) := Lib.hid (by rw [rowP_cons, HP.out, hke, List.take_length])
      have hlt' : ¬ (k : Int) < ((n - 1 : Nat) : Int) := by have := hn.out; omega
      clear hlt hke
      go_wp2
      go_ret
      exact ⟨by rw [HR.out]; try rfl, hbel⟩
set_option maxRecDepth 100000 in
set_option maxHeartbeats 1600000 in
theorem row3_any {z n cap c : Nat} {A : Option Addr} {B : Nat} {l : List Nat} {w : World} (hz : Hid (z < 4294967296)) (hn : Hid (n = l.length + 1)) (hn1 : 2 ≤ n) (hn2 : n ≤ 1000) (hB : B ≤ w.heap.size) (ha : WR w B A (c :: l)) (hw : Hid (Wd (c :: l))) :
    Calls Try.prog 53 #[.int .u32 (z : Int), .slice A n cap] w (BR w (rowP z (c :: l))) := by
  obtain ⟨b, off, rfl, hb, a0⟩ := ha.at_ (k := 0) (by simp)
  have hp1 : 0 < n := by omega
  rw [Nat.add_zero] at a0
  have a0 : w.cell? ⟨b, off, none⟩ = some (.int .u32 (c : Int)) := a0
  have HC : Hid (c < 4294967296) := Lib.hid (hw.out c (by simp))
  go_enter Try.func53, Try.ntmps53
  go_wp2
  go_loopw [5, 6] (fun pv iv wr => ELrel z l c 1 w pv iv wr) (fun _ iv _ => n - (intOf iv).toNat)
  case atStart => exact ⟨0, c, rfl, Nat.zero_le _, rfl, Lib.hid rfl, HC, Below.refl _ _⟩
  case round =>
    obtain ⟨k, p, rfl, hk, rfl, HP, HPL, hbel⟩ := hrel
    have hsz := hbel.size
    by_cases hlt : k < l.length
    · obtain ⟨b', off', hbo, hb2, a1'⟩ := ha.at_ (k := k + 1) (by simpa using hlt)
      simp only [Option.some.injEq, Addr.mk.injEq, and_true] at hbo
      obtain ⟨rfl, rfl⟩ := hbo
      have a1 := (hbel.cell (p := ⟨b, off + (k + 1), none⟩) (by show b < w.heap.size; omega)).trans a1'
      rw [List.getElem_cons_succ] at a1
      have hck : l[k] < 4294967296 := hw.out _ (by simp)
      have HF := Lib.hid (foldl_take (z := z) (c := c) hlt)
      have hkl : k + 1 ≤ l.length := hlt
      clear a1'
      generalize l[k] = x at *
      have HX := Lib.hid hck
      clear hck
      have hlt' : ((k + 1 : Nat) : Int) < (n : Int) := by have := hn.out; omega
      have hlt2 : k + 1 < n := by have := hn.out; omega
      obtain ⟨r, hr⟩ : ∃ r, fmaP 0 z p x = r := ⟨_, rfl⟩
      have HRL : Hid (r < 4294967296) := Lib.hid (by rw [← hr]; exact lt_fma HX.out)
      have HR := Lib.hid hr
      have HPN : Hid (r = (l.take (k + 1)).foldl (fun p c => fmaP 0 z p c) c) := Lib.hid (by rw [HF.out, ← HP.out, hr])
      clear hr hlt
      go_wp2_with fail
      refine (rfma3_at hz HPL HX HR).mono ?_
      rintro e w2 ⟨rfl, hb3⟩
      go_wp2
      go_roundw
      case rel => exact ⟨k + 1, r, by go_num, hkl, rfl, HPN, HRL, hbel.trans (hb3.mono hsz)⟩
      case measure => simp [intOf]; omega
    · have hke : k = l.length := by omega
      have HR : Hid (rowP z (c :: l) = p) := Lib.hid (by rw [rowP_cons, HP.out, hke, List.take_length])
      have hlt' : ¬ ((k + 1 : Nat) : Int) < (n : Int) := by have := hn.out; omega
      clear hlt hke
      go_wp2
      go_ret
      exact ⟨by rw [HR.out]; try rfl, hbel⟩
end Go.Proofs.Ytegeadkilolngaa
