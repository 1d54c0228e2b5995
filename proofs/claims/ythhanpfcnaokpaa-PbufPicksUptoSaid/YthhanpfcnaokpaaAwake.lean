/- The contract of awake: the document's examples hold. -/
import Derived.Test.YthhanpfcnaokpaaSame
import Derived.Test.YthhanpfcnaokpaaWrite
import Derived.Lib.SlBytesConst
namespace Go.Proofs.Ythhanpfcnaokpaa
open Go.RowKit

theorem ex_vi : vi 300 = [172, 2] := by decide
theorem ex_rv0 : rvar [172, 2] (0 : Int) = (300, 2, 0) := by decide
theorem ex_rv2 : rvar [172, 2] (2 : Int) = (0, 0, 6) := by decide
theorem ex_rd : readE [8, 150, 1, 18, 2, 65, 66] = ([⟨1, 0, 150, []⟩, ⟨2, 2, 0, [65, 66]⟩], 0) := by rfl
theorem ex_rd2 : readE [18, 3, 65] = ([], 6) := by rfl
theorem ex_wr : writeE [⟨1, 0, 150, []⟩, ⟨2, 2, 0, [65, 66]⟩] = ([8, 150, 1, 18, 2, 65, 66], 0) := by rfl

theorem RB.lit (w : World) (l : List UInt8) : RB (w.alloc (.cells (byt l).toArray 5)) (w.heap.size + 1) (some ⟨w.heap.size, 0, none⟩) l := Reads.new_ w 5 (byt l) 1 l.length (by simp [byt_len])

theorem read_at {A : Option Addr} {cap n : Nat} {w : World} (l : List UInt8) {fs : List Fld} {er : Int} (hn : n = l.length) (hr : readE l = (fs, er)) (hcap : l.length ≤ cap) (hm : cap ≤ maxLen) (hb : RB w w.heap.size A l) :
    Calls Try.prog 20 #[.slice A n cap] w fun e w' => ∃ v, e = .returned (.tuple #[v, .int .i64 er]) ∧ OF w' w.heap.size 40 v fs ∧ Below w.heap.size w w' := by
  subst hn
  have h := read_any A cap l w hcap hm hb
  rw [hr] at h
  exact h
theorem write_at {A : Option Addr} {cap n : Nat} {w : World} (fs : List Fld) {l : List UInt8} {er : Int} (hn : n = fs.length) (hr : writeE fs = (l, er)) (hm : cap ≤ maxLen) (hcap : fs.length ≤ cap) (hb : RF w w.heap.size A fs) (hwf : Wf64 fs) :
    Calls Try.prog 23 #[.slice A n cap] w fun e w' => ∃ v, e = .returned (.tuple #[v, .int .i64 er]) ∧ OB w' w.heap.size v l ∧ Below w.heap.size w w' := by
  subst hn
  have h := write_any A cap fs w hm hcap hb hwf
  rw [hr] at h
  exact h

/-- the two fields of the example -/
def exF : List Fld := [⟨1, 0, 150, []⟩, ⟨2, 2, 0, [65, 66]⟩]
def exB : Obj := .cells #[.int .u8 65, .int .u8 66] 5 (2, 3)
def exC (g : Nat) : Obj := .cells #[.int .i64 1, .int .i64 0, .int .u64 150, .slice none 0 0, .int .i64 2, .int .i64 2, .int .u64 0, .slice (some ⟨g, 0, none⟩) 2 2] 40
theorem ex_rf (w : World) : RF ((w.alloc exB).alloc (exC w.heap.size)) ((w.alloc exB).alloc (exC w.heap.size)).heap.size (some ⟨w.heap.size + 1, 0, none⟩) exF := by
  have hz : (w.alloc exB).heap.size = w.heap.size + 1 := by simp
  have h1 := Reads.new_ (w.alloc exB) 40 (fcells exF [.slice none 0 0, .slice (some ⟨w.heap.size, 0, none⟩) 2 2]) 4 2 rfl
  have h2 : RB (w.alloc exB) (w.heap.size + 1) (some ⟨w.heap.size, 0, none⟩) [65, 66] := Reads.newm w 5 (2, 3) (byt [65, 66]) 1 2 rfl
  refine ⟨[.slice none 0 0, .slice (some ⟨w.heap.size, 0, none⟩) 2 2], rfl, ?_, ?_⟩
  · rw [hz] at h1
    exact h1.more (by simp)
  · intro i h h'
    match i, h with
    | 0, _ => exact ⟨none, 0, rfl, Nat.le_refl _, by decide, RB.nil _ _ _⟩
    | 1, _ => exact ⟨_, 2, rfl, Nat.le_refl _, by decide, (h2.alloc (by simp) _).more (by simp)⟩
theorem ex_wf : Wf64 exF := by
  intro f hf
  simp only [exF, List.mem_cons, List.not_mem_nil, or_false] at hf
  rcases hf with rfl | rfl <;> exact ⟨by decide, by decide⟩

theorem str_ab {w : World} {b o c : Nat} (h0 : w.cell? ⟨b, o, none⟩ = some (.int .u8 65)) (h1 : w.cell? ⟨b, o + 1, none⟩ = some (.int .u8 66)) :
    (convert 24 9 (.slice (some ⟨b, o, none⟩) 2 c)).run Try.prog w = .ok (.string ⟨#[65, 66]⟩) w := by
  rw [run_convert_bytes_string w 24 9 5 _ _ _ Try.underlying24 Try.underlying5 Try.underlying9]
  rw [run_bytesToString w ⟨b, o, none⟩ 2 c [65, 66] (run_loadCells_list w ⟨b, o, none⟩ [.int .u8 65, .int .u8 66] ?_)]
  · rfl
  · intro j v hj
    rw [Addr.add_lit]
    match j with
    | 0 => simp at hj; subst hj; exact h0
    | 1 => simp at hj; subst hj; exact h1
    | j + 2 => simp at hj

set_option maxRecDepth 100000 in
set_option maxHeartbeats 1600000 in
theorem awake_any (w : World) : Calls Try.prog 12 #[] w fun e w' => e = .returned (.bool true) ∧ Below w.heap.size w w' := by
  have kc := fun (w : World) (C : Array Value) (n c : Nat) => Lib.run_convert_bytes_const (P := Try.prog) w 24 5 C n c Try.underlying24 Try.underlying5
  go_enter Try.func12, Try.ntmps12
  go_wp2_with fail
  refine (varint_any 300 (by decide) w).mono ?_
  rintro e w1 ⟨v1, rfl, ho1, hb1⟩
  rw [ex_vi] at ho1
  go_wp2_with fail
  refine (rdvar_at ex_rv0 (by decide) (by decide) (RB.lit w1 [172, 2])).mono ?_
  rintro e w2 ⟨rfl, rfl⟩
  have hb2 := hb1.alloc hb1.size (.cells (byt [172, 2]).toArray 5)
  have ho1 := ho1.alloc (.cells (byt [172, 2]).toArray 5)
  generalize w1.alloc (.cells (byt [172, 2]).toArray 5) = w2 at *
  clear hb1
  go_wp2_with fail
  refine (rdvar_at ex_rv2 (by decide) (by decide) (RB.lit w2 [172, 2])).mono ?_
  rintro e w3 ⟨rfl, rfl⟩
  have hb3 := hb2.alloc hb2.size (.cells (byt [172, 2]).toArray 5)
  have ho1 := ho1.alloc (.cells (byt [172, 2]).toArray 5)
  generalize w2.alloc (.cells (byt [172, 2]).toArray 5) = w3 at *
  clear hb2
  go_wp2_with fail
  refine (read_at [8, 150, 1, 18, 2, 65, 66] rfl ex_rd (by decide) (by decide) ((RB.lit w3 [8, 150, 1, 18, 2, 65, 66]).more (by simp))).mono ?_
  rintro e w4 ⟨v4, rfl, ho4, hb4⟩
  have hb4' := (hb3.alloc hb3.size (.cells (byt [8, 150, 1, 18, 2, 65, 66]).toArray 5)).trans (hb4.mono (by have := hb3.size; simp; omega))
  have ho1 := OB.below (ho1.alloc (.cells (byt [8, 150, 1, 18, 2, 65, 66]).toArray 5)) hb4 (Nat.le_refl _)
  clear hb3 hb4
  go_wp2_with fail
  refine (read_at [18, 3, 65] rfl ex_rd2 (by decide) (by decide) ((RB.lit w4 [18, 3, 65]).more (by simp))).mono ?_
  rintro e w5 ⟨v5, rfl, ho5, hb5⟩
  have hb5' := (hb4'.alloc hb4'.size (.cells (byt [18, 3, 65]).toArray 5)).trans (hb5.mono (by have := hb4'.size; simp; omega))
  have hb5a := (Below.refl w4.heap.size w4).alloc (Nat.le_refl _) (.cells (byt [18, 3, 65]).toArray 5) |>.trans (hb5.mono (by simp))
  have ho1 := OB.below ho1 hb5a (Nat.le_refl _)
  have ho4 := OF.below ho4 hb5a (Nat.le_refl _)
  clear hb5 hb4' hb5a ho5
  go_wp2_with fail
  refine (write_at exF rfl ex_wr (by decide) (by decide) (ex_rf w5) ex_wf).mono ?_
  rintro e w6 ⟨v6, rfl, ho6, hb6⟩
  have hb6' := ((hb5'.alloc hb5'.size exB).alloc (by have := hb5'.size; simp; omega) (exC w5.heap.size)).trans (hb6.mono (by have := hb5'.size; simp; omega))
  have hb6a := ((Below.refl w5.heap.size w5).alloc (Nat.le_refl _) exB).alloc (by simp) (exC w5.heap.size) |>.trans (hb6.mono (by simp; omega))
  have ho1 := OB.below ho1 hb6a (Nat.le_refl _)
  have ho4 := OF.below ho4 hb6a (Nat.le_refl _)
  clear hb6 hb6a hb5'
  obtain ⟨A1, c1, rfl, hl1, hm1, hr1⟩ := ho1.form
  obtain ⟨A4, c4, rfl, hl4, hm4, hr4⟩ := ho4.form
  obtain ⟨A6, c6, rfl, hl6, hm6, hr6⟩ := ho6.form
  obtain ⟨b1, o1, rfl, -, p0⟩ := hr1.at_ (k := 0) (by decide)
  obtain ⟨b1', o1', e1, -, p1⟩ := hr1.at_ (k := 1) (by decide)
  simp only [Option.some.injEq, Addr.mk.injEq, and_true] at e1
  obtain ⟨rfl, rfl⟩ := e1
  obtain ⟨b6, o6, rfl, -, p6⟩ := hr6.at_ (k := 6) (by decide)
  obtain ⟨b4, o4, d0, rfl, -, hd0, f00, f01, f02, f03⟩ := hr4.at_ (k := 0) (by decide)
  obtain ⟨b4', o4', d1, e1, -, hd1, f10, f11, f12, f13⟩ := hr4.at_ (k := 1) (by decide)
  simp only [Option.some.injEq, Addr.mk.injEq, and_true] at e1
  obtain ⟨rfl, rfl⟩ := e1
  obtain ⟨A7, c7, rfl, hl7, hm7, hr7⟩ := hd1
  obtain ⟨b7, o7, rfl, -, q0⟩ := hr7.at_ (k := 0) (by decide)
  obtain ⟨b7', o7', e1, -, q1⟩ := hr7.at_ (k := 1) (by decide)
  simp only [Option.some.injEq, Addr.mk.injEq, and_true] at e1
  obtain ⟨rfl, rfl⟩ := e1
  have P0 : w6.cell? ⟨b1, o1, none⟩ = some (.int .u8 172) := p0
  have P1 : w6.cell? ⟨b1, o1 + 1, none⟩ = some (.int .u8 2) := p1
  have P6 : w6.cell? ⟨b6, o6 + 6, none⟩ = some (.int .u8 66) := p6
  have F0 : w6.cell? ⟨b4, o4, none⟩ = some (.int .i64 1) := f00
  have F2 : w6.cell? ⟨b4, o4 + 2, none⟩ = some (.int .u64 150) := f02
  have F5 : w6.cell? ⟨b4, o4 + 5, none⟩ = some (.int .i64 2) := f11
  have F7 : w6.cell? ⟨b4, o4 + 7, none⟩ = some (.slice (some ⟨b7, o7, none⟩) 2 c7) := f13
  have Q0 : w6.cell? ⟨b7, o7, none⟩ = some (.int .u8 65) := q0
  have Q1 : w6.cell? ⟨b7, o7 + 1, none⟩ = some (.int .u8 66) := q1
  clear p0 p1 p6 f00 f01 f02 f03 f10 f11 f12 f13 q0 q1 hr1 hr4 hr6 hr7 hd0 ho1 ho4 ho6 hl1 hl4 hl6 hl7 hm1 hm4 hm6 hm7
  have hcv := str_ab (c := c7) Q0 Q1
  clear Q0 Q1
  go_wp2_with fail
  go_ret
  exact ⟨rfl, hb6'⟩
end Go.Proofs.Ythhanpfcnaokpaa
