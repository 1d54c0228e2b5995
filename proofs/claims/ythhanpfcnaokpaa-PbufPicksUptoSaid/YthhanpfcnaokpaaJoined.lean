/- The contracts of Joined, of both sides. -/
import Derived.Test.YthhanpfcnaokpaaAll
namespace Go.Proofs.Ythhanpfcnaokpaa
open Go.RowKit

/-- all bytes, one behind the other, of fields that are all of bytes -/
def jn : List Fld → Option (List UInt8)
  | [] => some []
  | f :: r => if f.wire = 2 then (jn r).map (f.data ++ ·) else none
def JN (fs : List Fld) (k : Nat) (out : List UInt8) : Prop := k ≤ fs.length ∧ out.length + bulkF (fs.drop k) ≤ bulkF fs ∧ jn fs = (jn (fs.drop k)).map (out ++ ·)
theorem JN.start (fs : List Fld) : JN fs 0 [] := ⟨Nat.zero_le _, by simp, by simp⟩
theorem JN.last {fs : List Fld} {k : Nat} {out : List UInt8} (h : JN fs k out) (hk : k = fs.length) : jn fs = some out := by
  rw [h.2.2, hk, List.drop_length]; simp [jn]
theorem JN.bad {fs : List Fld} {k : Nat} {out : List UInt8} (h : JN fs k out) (hk : k < fs.length) (hb : ¬ fs[k].wire = 2) : jn fs = none := by
  rw [h.2.2, List.drop_eq_getElem_cons hk]; simp [jn, hb]
theorem JN.step {fs : List Fld} {k : Nat} {out : List UInt8} (h : JN fs k out) (hk : k < fs.length) (hb : fs[k].wire = 2) : JN fs (k + 1) (out ++ fs[k].data) := by
  obtain ⟨h1, h2, h3⟩ := h
  rw [List.drop_eq_getElem_cons hk] at h2 h3
  refine ⟨by omega, ?_, ?_⟩
  · simp only [bulkF] at h2
    rw [List.length_append]; omega
  · rw [h3]
    simp only [jn, hb, if_pos]
    cases jn (fs.drop (k + 1)) <;> simp
theorem JN.room {fs : List Fld} {k : Nat} {out : List UInt8} (h : JN fs k out) (hk : k < fs.length) : out.length + fs[k].data.length + 1 ≤ bulkF fs := by
  have := h.2.1
  rw [List.drop_eq_getElem_cons hk] at this
  simp only [bulkF] at this
  omega
/-- what Joined answers: of the fields of the number -/
def JR (w : World) (a : List Fld) (e : Ending) (w' : World) : Prop :=
  ∃ v b er, e = .returned (.tuple #[v, .bool b, .int .i64 er]) ∧ OB w' w.heap.size v ((jn a).getD []) ∧ Below w.heap.size w w' ∧ b = (match jn a with | none => false | some _ => decide (0 < a.length)) ∧ er = (match jn a with | none => 6 | some _ => 0)
theorem JR.bad {w w' : World} {a : List Fld} (h : jn a = none) (hb : Below w.heap.size w w') : JR w a (.returned (.tuple #[.slice none 0 0, .bool false, .int .i64 6])) w' := by
  refine ⟨_, _, _, rfl, ?_, hb, ?_, ?_⟩ <;> rw [h]
  exact OB.nil _ _
theorem JR.good {w w' : World} {a : List Fld} {l : List UInt8} {v : Value} {b : Bool} (h : jn a = some l) (ho : OB w' w.heap.size v l) (hb : Below w.heap.size w w') (he : b = decide (0 < a.length)) : JR w a (.returned (.tuple #[v, .bool b, .int .i64 0])) w' := by
  refine ⟨_, _, _, rfl, ?_, hb, ?_, ?_⟩ <;> rw [h]
  · exact ho
  · exact he

theorem sel_yes {num : Int} {f : Fld} {r : List Fld} (hn : f.num = num) : sel num (f :: r) = f :: sel num r := by simp [sel, hn]
theorem sel_no {num : Int} {f : Fld} {r : List Fld} (hn : ¬ f.num = num) : sel num (f :: r) = sel num r := by simp [sel, hn]
/-- Joined's own loop -/
def JS (num : Int) (fs : List Fld) (k : Nat) (out : List UInt8) (b : Bool) : Prop := k ≤ fs.length ∧ out.length + bulkF (fs.drop k) ≤ bulkF fs ∧ jn (sel num fs) = (jn (sel num (fs.drop k))).map (out ++ ·) ∧
  decide (0 < (sel num fs).length) = (b || decide (0 < (sel num (fs.drop k)).length))
theorem JS.start (num : Int) (fs : List Fld) : JS num fs 0 [] false := ⟨Nat.zero_le _, by simp, by simp, by simp⟩
theorem JS.last {num : Int} {fs : List Fld} {k : Nat} {out : List UInt8} {b : Bool} (h : JS num fs k out b) (hk : k = fs.length) : jn (sel num fs) = some out ∧ b = decide (0 < (sel num fs).length) := by
  obtain ⟨h1, h2, h3, h4⟩ := h
  rw [hk, List.drop_length] at h3 h4
  exact ⟨by rw [h3]; simp [jn, sel], by rw [h4]; simp [sel]⟩
theorem JS.bad {num : Int} {fs : List Fld} {k : Nat} {out : List UInt8} {b : Bool} (h : JS num fs k out b) (hk : k < fs.length) (hn : fs[k].num = num) (hw : ¬ fs[k].wire = 2) : jn (sel num fs) = none := by
  rw [h.2.2.1, List.drop_eq_getElem_cons hk, sel_yes hn]; simp [jn, hw]
theorem JS.skip {num : Int} {fs : List Fld} {k : Nat} {out : List UInt8} {b : Bool} (h : JS num fs k out b) (hk : k < fs.length) (hn : ¬ fs[k].num = num) : JS num fs (k + 1) out b := by
  obtain ⟨h1, h2, h3, h4⟩ := h
  rw [List.drop_eq_getElem_cons hk] at h2 h3 h4
  rw [sel_no hn] at h3 h4
  refine ⟨by omega, ?_, h3, h4⟩
  simp only [bulkF] at h2
  omega
theorem JS.step {num : Int} {fs : List Fld} {k : Nat} {out : List UInt8} {b : Bool} (h : JS num fs k out b) (hk : k < fs.length) (hn : fs[k].num = num) (hw : fs[k].wire = 2) : JS num fs (k + 1) (out ++ fs[k].data) true := by
  obtain ⟨h1, h2, h3, h4⟩ := h
  rw [List.drop_eq_getElem_cons hk] at h2 h3 h4
  rw [sel_yes hn] at h3 h4
  refine ⟨by omega, ?_, ?_, ?_⟩
  · simp only [bulkF] at h2
    rw [List.length_append]; omega
  · rw [h3]
    simp only [jn, hw, if_pos]
    cases jn (sel num (fs.drop (k + 1))) <;> simp
  · rw [h4]; simp
theorem JS.room {num : Int} {fs : List Fld} {k : Nat} {out : List UInt8} {b : Bool} (h : JS num fs k out b) (hk : k < fs.length) : out.length + fs[k].data.length + 1 ≤ bulkF fs := by
  have := h.2.1
  rw [List.drop_eq_getElem_cons hk] at this
  simp only [bulkF] at this
  omega
def JSrel (num : Int) (fs : List Fld) (w : World) (out is i : Value) (wr : World) : Prop := ∃ (k : Nat) (l : List UInt8) (b : Bool), i = .int .i64 (k : Int) ∧ is = .bool b ∧ JS num fs k l b ∧ OB wr w.heap.size out l ∧ Below w.heap.size w wr

set_option maxRecDepth 100000 in
set_option maxHeartbeats 1600000 in
theorem joined_any (A : Option Addr) (cap : Nat) (fs : List Fld) (num : Int) (w : World) (hfl : fs.length + 1 ≤ 2900000000000) (hbulk : bulkF fs + 1 ≤ 17592186044416) (hb : RF w w.heap.size A fs) :
    Calls Try.prog 31 #[.slice A fs.length cap, .int .i64 num] w (JR w (sel num fs)) := by
  go_enter Try.func31, Try.ntmps31
  go_wp2
  go_loopw [7, 8, 13] (fun out is i wr => JSrel num fs w out is i wr) (fun _ _ i _ => fs.length - (intOf i).toNat)
  case atStart => exact ⟨0, [], false, rfl, rfl, JS.start _ _, OB.nil _ _, Below.refl _ _⟩
  case round =>
    obtain ⟨k, l, bo, rfl, rfl, hin, hown, hbel⟩ := hrel
    have hsz := hbel.size
    have hk := hin.1
    by_cases hlt : k < fs.length
    · obtain ⟨b, off, dv, rfl, hbb, hdv, a0', a1', a2', a3'⟩ := hb.at_ hlt
      have a0 := (hbel.cell (p := ⟨b, _, none⟩) hbb).trans a0'
      have a1 := (hbel.cell (p := ⟨b, _, none⟩) hbb).trans a1'
      have a2 := (hbel.cell (p := ⟨b, _, none⟩) hbb).trans a2'
      have a3 := (hbel.cell (p := ⟨b, _, none⟩) hbb).trans a3'
      clear a0' a1' a2' a3'
      have HB := Lib.hid (hin.bad hlt)
      have HS := Lib.hid (hin.step hlt)
      have HN := Lib.hid (hin.skip hlt)
      have hdb := hin.room hlt
      obtain ⟨Ad, cd, rfl, hld, hmd, hrd⟩ := hdv
      clear hin
      generalize fs[k] = f at *
      obtain ⟨fnum, wire, x, data⟩ := f
      dsimp only at *
      have hr1 := ((hrd.below hbel).more hsz).alloc (Nat.le_refl _) (.cells #[.int .i64 fnum, .int .i64 wire, .int .u64 x, .slice Ad data.length cd] 40)
      by_cases hnum : fnum = num
      · subst hnum
        have hq : (fnum != fnum) = false := by simp
        by_cases hw2 : wire = 2
        · subst hw2
          go_wp2_with (at_builtin
                       go_must (refine append_bytes rfl _ _ rfl (hown.alloc _) rfl data rfl rfl hr1 (by omega) (by simp; omega) ?_; intro v2 w2 ho2 hg2 ha2))
          go_roundw
          case rel => exact ⟨k + 1, _, true, by go_num, rfl, HS.out rfl rfl, ho2, grown_below (hown.alloc _) hg2 (by simp; omega) (Nat.le_refl _) (hbel.alloc hsz _)⟩
          case measure => simp [intOf]; omega
        · have hq2 : (wire != 2) = true := by simpa using hw2
          go_wp2
          refine bodyPost_ret (by simp [results, Try.results31, go_sem]; rfl) rfl ?_
          exact JR.bad (HB.out (by trivial) hw2) (hbel.alloc hsz _)
      · have hq : (fnum != num) = true := by simpa using hnum
        go_wp2
        go_roundw
        case rel => exact ⟨k + 1, l, bo, by go_num, rfl, HN.out hnum, hown.alloc _, hbel.alloc hsz _⟩
        case measure => simp [intOf]; omega
    · have HL := Lib.hid (hin.last (by omega))
      go_wp2
      refine bodyPost_ret (by simp [results, Try.results31, go_sem]; rfl) rfl ?_
      exact JR.good HL.out.1 hown hbel HL.out.2

def JNrel (a : List Fld) (w : World) (out i : Value) (wr : World) : Prop := ∃ (k : Nat) (l : List UInt8), i = .int .i64 (k : Int) ∧ JN a k l ∧ OB wr w.heap.size out l ∧ Below w.heap.size w wr
theorem JR.after {w w1 w' : World} {a : List Fld} {e : Ending} (hb : Below w.heap.size w w1) (h : JR w1 a e w') : JR w a e w' := by
  obtain ⟨v, b, er, rfl, h2, h3, h4⟩ := h
  exact ⟨v, b, er, rfl, h2.mono hb.size, hb.trans (h3.mono hb.size), h4⟩

set_option maxRecDepth 100000 in
set_option maxHeartbeats 1600000 in
theorem rjoined_any (A : Option Addr) (cap : Nat) (fs : List Fld) (num : Int) (w : World) (hfl : fs.length + 1 ≤ 2900000000000) (hbulk : bulkF fs + 1 ≤ 17592186044416) (hb : RF w w.heap.size A fs) :
    Calls Try.prog 32 #[.slice A fs.length cap, .int .i64 num] w (JR w (sel num fs)) := by
  go_enter Try.func32, Try.ntmps32
  go_wp2_with fail
  refine (rall_any A cap fs num w hfl hb).mono ?_
  rintro e w1 ⟨v, rfl, ho, hb1⟩
  obtain ⟨A1, n1, c1, rfl, hn1, hl1, hm1, hr1⟩ := ho.form hb1.size
  have hbk : bulkF (sel num fs) + 1 ≤ 17592186044416 := by have := bulk_sel num fs; omega
  have hS := hb1
  clear hb ho hbulk hfl
  generalize sel num fs = gs at *
  unfold maxLen at hm1
  subst hn1
  go_wp2
  go_loopw [8, 9] (fun out i wr => JNrel gs w1 out i wr) (fun _ i _ => gs.length - (intOf i).toNat)
  case atStart => exact ⟨0, [], rfl, JN.start _, OB.nil _ _, Below.refl _ _⟩
  case round =>
    obtain ⟨k, l, rfl, hin, hown, hbel⟩ := hrel
    have hsz := hbel.size
    have hk := hin.1
    by_cases hlt : k < gs.length
    · obtain ⟨b, off, dv, rfl, hbb, hdv, a0', a1', a2', a3'⟩ := hr1.at_ hlt
      have a0 := (hbel.cell (p := ⟨b, _, none⟩) hbb).trans a0'
      have a1 := (hbel.cell (p := ⟨b, _, none⟩) hbb).trans a1'
      have a2 := (hbel.cell (p := ⟨b, _, none⟩) hbb).trans a2'
      have a3 := (hbel.cell (p := ⟨b, _, none⟩) hbb).trans a3'
      clear a0' a1' a2' a3'
      have HB := Lib.hid (hin.bad hlt)
      have HS := Lib.hid (hin.step hlt)
      have hdb := hin.room hlt
      obtain ⟨Ad, cd, rfl, hld, hmd, hrd⟩ := hdv
      have hrd' := (hrd.below hbel).more hsz
      clear hin
      generalize gs[k] = f at *
      obtain ⟨fnum, wire, x, data⟩ := f
      dsimp only at *
      by_cases hw2 : wire = 2
      · subst hw2
        go_wp2_with (at_builtin
                     go_must (refine append_bytes rfl _ _ rfl hown rfl data rfl rfl hrd' (by omega) hsz ?_; intro v2 w2 ho2 hg2 ha2))
        go_roundw
        case rel => exact ⟨k + 1, _, by go_num, HS.out rfl, ho2, grown_below hown hg2 hsz (Nat.le_refl _) hbel⟩
        case measure => simp [intOf]; omega
      · have hq2 : (wire != 2) = true := by simpa using hw2
        go_wp2
        refine bodyPost_ret (by simp [results, Try.results32, go_sem]; rfl) rfl ?_
        exact JR.after hS (JR.bad (HB.out hw2) hbel)
    · have HL := Lib.hid (hin.last (by omega))
      go_wp2
      refine bodyPost_ret (by simp [results, Try.results32, go_sem]; rfl) rfl ?_
      exact JR.after hS (JR.good HL.out hown hbel (by simp))
end Go.Proofs.Ythhanpfcnaokpaa
