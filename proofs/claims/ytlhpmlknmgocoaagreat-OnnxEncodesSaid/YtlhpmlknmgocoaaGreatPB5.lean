import Derived.Test.YtlhpmlknmgocoaaGreatPB4
/- The contract of the document's All: the fields of one number, their bytes shared. -/
namespace Go.Proofs.YtlhpmlknmgocoaaGreat
set_option linter.unusedSimpArgs false
set_option linter.unusedVariables false
open Go.RowKit

/-- the fields of one number -/
def sel (num : Int) (fs : List Fld) : List Fld := fs.filter fun f => decide (f.num = num)
theorem sel_snoc_yes {num : Int} {fs : List Fld} {k : Nat} (h : k < fs.length) (hn : fs[k].num = num) : sel num (fs.take (k + 1)) = sel num (fs.take k) ++ [fs[k]] := by
  unfold sel; rw [List.take_succ_eq_append_getElem h, List.filter_append, List.filter_cons, if_pos (by simpa using hn), List.filter_nil]
theorem sel_snoc_no {num : Int} {fs : List Fld} {k : Nat} (h : k < fs.length) (hn : ¬ fs[k].num = num) : sel num (fs.take (k + 1)) = sel num (fs.take k) := by
  unfold sel; rw [List.take_succ_eq_append_getElem h, List.filter_append, List.filter_cons, if_neg (by simpa using hn), List.filter_nil, List.append_nil]
theorem sel_len (num : Int) (fs : List Fld) : (sel num fs).length ≤ fs.length := List.length_filter_le _ _
theorem sel_take_len (num : Int) (fs : List Fld) (k : Nat) : (sel num (fs.take k)).length ≤ k := by
  have := sel_len num (fs.take k)
  rw [List.length_take] at this
  omega
end Go.Proofs.YtlhpmlknmgocoaaGreat

/- Plain laws of a number's values, for any way to read one field: over the fields of one number alone; the fours of bytes. -/
namespace Go.Proofs.YtlhpmlknmgocoaaGreat
open Go.RowKit

def gat (g : Fld → Option (List Nat)) : List Fld → Option (List Nat)
  | [] => some []
  | f :: r => match g f with
    | none => none
    | some a => (gat g r).map (a ++ ·)
def GN (g : Fld → Option (List Nat)) (fs : List Fld) (k : Nat) (out : List Nat) : Prop := k ≤ fs.length ∧ out.length + bulkF (fs.drop k) ≤ bulkF fs ∧ gat g fs = (gat g (fs.drop k)).map (out ++ ·)
theorem GN.start (g : Fld → Option (List Nat)) (fs : List Fld) : GN g fs 0 [] := ⟨Nat.zero_le _, by simp, by simp⟩
theorem GN.last {g : Fld → Option (List Nat)} {fs : List Fld} {k : Nat} {out : List Nat} (h : GN g fs k out) (hk : k = fs.length) : gat g fs = some out := by
  rw [h.2.2, hk, List.drop_length]; simp [gat]
theorem GN.bad {g : Fld → Option (List Nat)} {fs : List Fld} {k : Nat} {out : List Nat} (h : GN g fs k out) (hk : k < fs.length) (hb : g fs[k] = none) : gat g fs = none := by
  rw [h.2.2, List.drop_eq_getElem_cons hk]; simp [gat, hb]
theorem GN.step {g : Fld → Option (List Nat)} {fs : List Fld} {k : Nat} {out a : List Nat} (h : GN g fs k out) (hk : k < fs.length) (hb : g fs[k] = some a) (hl : a.length ≤ fs[k].data.length + 1) : GN g fs (k + 1) (out ++ a) := by
  obtain ⟨h1, h2, h3⟩ := h
  rw [List.drop_eq_getElem_cons hk] at h2 h3
  refine ⟨by omega, ?_, ?_⟩
  · simp only [bulkF] at h2
    rw [List.length_append]; omega
  · rw [h3]
    simp only [gat, hb]
    cases gat g (fs.drop (k + 1)) <;> simp
theorem GN.room {g : Fld → Option (List Nat)} {fs : List Fld} {k : Nat} {out : List Nat} (h : GN g fs k out) (hk : k < fs.length) : out.length + fs[k].data.length + 1 ≤ bulkF fs := by
  have := h.2.1
  rw [List.drop_eq_getElem_cons hk] at this
  simp only [bulkF] at this
  omega

theorem gat_sel {num : Int} {g g' : Fld → Option (List Nat)} (h : ∀ f, g' f = if f.num ≠ num then some [] else g f) (fs : List Fld) : gat g' fs = gat g (sel num fs) := by
  induction fs with
  | nil => rfl
  | cons f fs ih =>
    by_cases hn : f.num = num
    · have : sel num (f :: fs) = f :: sel num fs := by simp [sel, hn]
      rw [this, gat, gat, h f, ih]; simp [hn]
    · have : sel num (f :: fs) = sel num fs := by simp [sel, hn]
      rw [this, gat, h f, ih]; simp [hn]
theorem bulk_sel (num : Int) (fs : List Fld) : bulkF (sel num fs) ≤ bulkF fs := by
  induction fs with
  | nil => exact Nat.le_refl _
  | cons f fs ih =>
    by_cases hn : f.num = num
    · have : sel num (f :: fs) = f :: sel num fs := by simp [sel, hn]
      rw [this]; simp only [bulkF]; omega
    · have : sel num (f :: fs) = sel num fs := by simp [sel, hn]
      rw [this]; simp only [bulkF]; omega

/-- the varints of a field of the number that is asked for -/
def ints0 (f : Fld) : Option (List Nat) := if f.wire = 0 then some [f.x] else if f.wire = 2 then vs f.data else none
theorem ints_gat (num : Int) (fs : List Fld) : ints num fs = gat ints0 (sel num fs) := by
  rw [← gat_sel (g' := ints1 num) (g := ints0) (fun f => rfl)]
  induction fs with
  | nil => rfl
  | cons f fs ih => rw [ints, gat, ih]; cases ints1 num f <;> rfl

/-- the fours of bytes -/
def fours (l : List UInt8) (k : Nat) : List Nat := (List.range k).map fun i => lit8 ((l.drop (4 * i)).take 4)
theorem fours_succ (l : List UInt8) (k : Nat) : fours l (k + 1) = fours l k ++ [lit8 ((l.drop (4 * k)).take 4)] := by simp [fours, List.range_succ]
theorem fours_len (l : List UInt8) (k : Nat) : (fours l k).length = k := by simp [fours]
theorem four_lt (l : List UInt8) (k : Nat) : lit8 ((l.drop (4 * k)).take 4) < 4294967296 := by
  refine Nat.lt_of_lt_of_le (lit8_lt _) ?_
  refine Nat.le_trans (Nat.pow_le_pow_right (by omega) (List.length_take_le 4 _)) (by decide)
def fixs0 (f : Fld) : Option (List Nat) := if f.wire = 5 then some [f.x % 4294967296] else if f.wire = 2 ∧ f.data.length % 4 = 0 then some (fours f.data (f.data.length / 4)) else none
def fixs1 (num : Int) (f : Fld) : Option (List Nat) := if f.num ≠ num then some [] else fixs0 f
theorem fixs_gat (num : Int) (fs : List Fld) : gat (fixs1 num) fs = gat fixs0 (sel num fs) := gat_sel (fun _ => rfl) fs

/-- what Ints and Fixed answer -/
def NR (k : IntKind) (t : TypeId) (w : World) (r : Option (List Nat)) (e : Ending) (w' : World) : Prop := ∃ v, e = .returned (.tuple #[v, .int .i64 (match r with | none => 6 | some _ => 0)]) ∧ ON k w' w.heap.size t v (r.getD []) ∧ Below w.heap.size w w'
theorem NR.bad {k : IntKind} {t : TypeId} {w w' : World} {r : Option (List Nat)} (h : r = none) (hb : Below w.heap.size w w') : NR k t w r (.returned (.tuple #[.slice none 0 0, .int .i64 6])) w' := by
  subst h; exact ⟨_, rfl, ON.nil _ _ _ _, hb⟩
theorem NR.good {k : IntKind} {t : TypeId} {w w' : World} {r : Option (List Nat)} {xs : List Nat} {v : Value} (h : r = some xs) (ho : ON k w' w.heap.size t v xs) (hb : Below w.heap.size w w') : NR k t w r (.returned (.tuple #[v, .int .i64 0])) w' := by
  subst h; exact ⟨_, rfl, ho, hb⟩
theorem ON.mono {k : IntKind} {w : World} {base base' : Nat} {e : TypeId} {v : Value} {l : List Nat} (h : ON k w base e v l) (hb : base' ≤ base) : ON k w base' e v l := by
  rcases h.2 with h' | ⟨g, cap, cur, h1, h2, h3⟩
  · exact ⟨h.1, .inl h'⟩
  · exact ⟨h.1, .inr ⟨g, cap, cur, h1, by omega, h3⟩⟩
theorem NR.after {k : IntKind} {t : TypeId} {w w1 w' : World} {r : Option (List Nat)} {e : Ending} (hb : Below w.heap.size w w1) (h : NR k t w1 r e w') : NR k t w r e w' := by
  obtain ⟨v, rfl, h2, h3⟩ := h
  exact ⟨v, rfl, h2.mono hb.size, hb.trans (h3.mono hb.size)⟩
def GNrel (g : Fld → Option (List Nat)) (fs : List Fld) (k : IntKind) (t : TypeId) (w : World) (out i : Value) (wr : World) : Prop := ∃ (n : Nat) (xs : List Nat), i = .int .i64 (n : Int) ∧ GN g fs n xs ∧ ON k wr w.heap.size t out xs ∧ Below w.heap.size w wr
def VTrel (l : List UInt8) (xs : List Nat) (w : World) (out p : Value) (wr : World) : Prop :=
  ∃ (q : Nat) (ys : List Nat), p = .int .i64 (q : Int) ∧ VS l ys q ∧ ON .u64 wr w.heap.size 60 out (xs ++ ys) ∧ Below w.heap.size w wr
end Go.Proofs.YtlhpmlknmgocoaaGreat

/- The contract of the document's Ints. -/
namespace Go.Proofs.YtlhpmlknmgocoaaGreat
open Go.RowKit

end Go.Proofs.YtlhpmlknmgocoaaGreat

/- The contract of pbuf.Fixed. -/
namespace Go.Proofs.YtlhpmlknmgocoaaGreat
open Go.RowKit

theorem info_32 : (Tryz.prog.info? 96).map (fun i => (i.zero, i.size, i.bytes)) = some (some (.int .u32 0), 1, 4) := by kernel_rfl
theorem wrap32 (x : Nat) : IntKind.u32.wrap (x : Int) = ((x % 4294967296 : Nat) : Int) := by
  simp [IntKind.wrap, IntKind.bits, IntKind.signed]

def FTrel (l : List UInt8) (xs : List Nat) (g : Nat) (cs : Array Value) (w : World) (out p : Value) (wr : World) : Prop :=
  ∃ q : Nat, p = .int .i64 ((4 * q : Nat) : Int) ∧ 4 * q ≤ l.length ∧ ON .u32 wr w.heap.size 96 out (xs ++ fours l q) ∧ Below w.heap.size w wr ∧ Blk wr g 108 cs

set_option maxRecDepth 100000 in
set_option maxHeartbeats 1600000 in
theorem fixd_any (A : Option Addr) (cap : Nat) (fs : List Fld) (num : Int) (w : World) (hm : cap ≤ maxLen) (hcap : fs.length ≤ cap) (hb : RF w w.heap.size A fs) (hbulk : bulkF fs + 1 ≤ 17592186044416) :
    Calls Tryz.prog 106 #[.slice A fs.length cap, .int .i64 num] w (NR .u32 96 w (gat (fixs1 num) fs)) := by
  unfold maxLen at hm
  go_enter Tryz.func106, Tryz.ntmps106
  go_wp2
  go_loopw [6, 12] (fun out i wr => GNrel (fixs1 num) fs .u32 96 w out i wr) (fun _ i _ => fs.length - (intOf i).toNat)
  case atStart => exact ⟨0, [], rfl, GN.start _ _, ON.nil _ _ _ _, Below.refl _ _⟩
  case round =>
    obtain ⟨k, xs, rfl, hin, hown, hbel⟩ := hrel
    have hsz := hbel.size
    have hk := hin.1
    have hxl : xs.length ≤ bulkF fs := by have := hin.2.1; omega
    by_cases hlt : k < fs.length
    · obtain ⟨b, off, dv, rfl, hbb, hdv, a0', a1', a2', a3'⟩ := hb.at_ hlt
      have a0 := (hbel.cell (p := ⟨b, _, none⟩) hbb).trans a0'
      have a1 := (hbel.cell (p := ⟨b, _, none⟩) hbb).trans a1'
      have a2 := (hbel.cell (p := ⟨b, _, none⟩) hbb).trans a2'
      have a3 := (hbel.cell (p := ⟨b, _, none⟩) hbb).trans a3'
      clear a0' a1' a2' a3'
      have HB := Lib.hid (hin.bad hlt)
      have HS := Lib.hid (fun a => hin.step (a := a) hlt)
      obtain ⟨Ad, cd, rfl, hld, hmd, hrd⟩ := hdv
      have hdb : xs.length + fs[k].data.length + 1 ≤ bulkF fs := hin.room hlt
      clear hin
      generalize fs[k] = f at *
      obtain ⟨fnum, wire, x, data⟩ := f
      dsimp only at *
      by_cases hnum : fnum = num
      · subst hnum
        have hq : (fnum != fnum) = false := by simp
        by_cases hw0 : wire = 5
        · subst hw0
          have HV : Hid (fixs1 fnum ⟨fnum, 5, x, data⟩ = some [x % 4294967296]) := by show _ = _; simp [fixs1, fixs0]
          go_wp2_with (at_builtin
                       go_must (refine append_num (by kernel_rfl) info_32 (by decide) rfl _ _ rfl (hown.alloc _) rfl rfl (by simp) (x % 4294967296) (wrap32 x) (by omega) (by simp; omega) ?_; intro v2 w2 ho2 hg2 ha2))
          go_roundw
          case rel => exact ⟨k + 1, _, by go_num, HS.out _ HV.out (by simp), ho2, (hown.alloc _).grownB hg2 (by simp; omega) (Nat.le_refl _) (hbel.alloc hsz _)⟩
          case measure => simp [intOf]; omega
        · by_cases hw2 : wire = 2
          · subst hw2
            by_cases hr4 : data.length % 4 = 0
            · have HV : Hid (fixs1 fnum ⟨fnum, 2, x, data⟩ = some (fours data (data.length / 4))) := by show _ = _; simp [fixs1, fixs0, hr4]
              have hr4' : (((data.length : Int) % 4) == 0) = true := by simp; omega
              go_wp2
              go_loopw [6, 9] (fun out p wr' => FTrel data xs wr.heap.size #[.int .i64 fnum, .int .i64 2, .int .u64 x, .slice Ad data.length cd] w out p wr') (fun _ p _ => data.length - (intOf p).toNat)
              case atStart => exact ⟨0, rfl, by omega, by simp [fours]; exact hown.alloc _, hbel.alloc hsz _, Blk.new _ _ _⟩
              case round =>
                clear hown
                obtain ⟨q, rfl, hq1, hown, hbel1, hblk⟩ := hrel
                obtain ⟨g0, g1, g2, g3⟩ := blk4 hblk
                have hz1 := hbel1.size
                have hxy : (xs ++ fours data q).length ≤ bulkF fs := by rw [List.length_append, fours_len]; omega
                have hr1 := (hrd.below hbel1)
                by_cases hend : 4 * q < data.length
                · have HF := Lib.hid (fours_succ data q)
                  have h4 := four_lt data q
                  have hc := (hr1.cut (k := 4 * q) (by omega) hld).take 4
                  rw [if_neg (by omega)] at hc
                  have HL : Hid (((data.drop (4 * q)).take 4).length = 4) := by show _ = _; simp; omega
                  go_wp2_with fail
                  refine (little_n HL (by omega) hc).mono ?_
                  rintro e w' ⟨rfl, rfl⟩
                  go_wp2_with (at_builtin
                               go_must (refine append_num (by kernel_rfl) info_32 (by decide) rfl _ _ rfl hown rfl rfl rfl (lit8 ((data.drop (4 * q)).take 4)) rfl (by omega) (by omega) ?_; intro v2 w2 ho2 hg2 ha2))
                  go_roundw
                  case rel => exact ⟨q + 1, by go_num, by omega, by rw [HF.out, ← List.append_assoc]; exact ho2, hown.grownB hg2 hz1 (Nat.le_refl _) hbel1, hblk.grown hg2 (own_blk_ne hown hblk (by decide)).symm⟩
                  case measure => simp [intOf]; omega
                · have HL : Hid (q = data.length / 4) := by show _ = _; omega
                  go_wp2
                  go_roundw
                  case rel => exact ⟨k + 1, _, by go_num, HS.out _ HV.out (by show (fours data _).length ≤ data.length + 1; rw [fours_len]; omega), by rw [← HL.out]; exact hown, hbel1⟩
                  case measure => simp [intOf]; omega
            · have HV : Hid (fixs1 fnum ⟨fnum, 2, x, data⟩ = none) := by show _ = _; simp [fixs1, fixs0, hr4]
              have hr4' : (((data.length : Int) % 4) == 0) = false := by simp; omega
              go_wp2
              go_ret2
              exact NR.bad (HB.out HV.out) (hbel.alloc hsz _)
          · have HV : Hid (fixs1 fnum ⟨fnum, wire, x, data⟩ = none) := by show _ = _; simp [fixs1, fixs0, hw0, hw2]
            go_wp2
            go_ret2
            exact NR.bad (HB.out HV.out) (hbel.alloc hsz _)
      · have hq : (fnum != num) = true := by simpa using hnum
        have HV : Hid (fixs1 num ⟨fnum, wire, x, data⟩ = some []) := by show _ = _; simp [fixs1, hnum]
        go_wp2
        go_roundw
        case rel => exact ⟨k + 1, _, by go_num, HS.out [] HV.out (by simp), by rw [List.append_nil]; exact hown.alloc _, hbel.alloc hsz _⟩
        case measure => simp [intOf]; omega
    · have HL := Lib.hid (hin.last (by omega))
      go_wp2
      go_ret2
      exact NR.good HL.out hown hbel
end Go.Proofs.YtlhpmlknmgocoaaGreat

/- The contract of the document's Fixed. -/
namespace Go.Proofs.YtlhpmlknmgocoaaGreat
open Go.RowKit

def FRrel (l : List UInt8) (xs : List Nat) (w : World) (out p : Value) (wr : World) : Prop :=
  ∃ q : Nat, p = .int .i64 ((4 * q : Nat) : Int) ∧ 4 * q ≤ l.length ∧ ON .u32 wr w.heap.size 96 out (xs ++ fours l q) ∧ Below w.heap.size w wr

end Go.Proofs.YtlhpmlknmgocoaaGreat

/- The contract of pbuf.All: the fields of one number, their bytes copied. -/
namespace Go.Proofs.YtlhpmlknmgocoaaGreat
open Go.RowKit

theorem data_bulk : ∀ {fs : List Fld} {k : Nat} (h : k < fs.length), fs[k].data.length + 1 ≤ bulkF fs
  | [], _, h => absurd h (Nat.not_lt_zero _)
  | f :: fs, 0, _ => by simp only [bulkF, List.getElem_cons_zero]; omega
  | f :: fs, k + 1, h => by
    have := data_bulk (fs := fs) (k := k) (by simpa using h)
    simp only [bulkF, List.getElem_cons_succ]; omega
def AArel (num : Int) (fs : List Fld) (w : World) (out i : Value) (wr : World) : Prop := ∃ k : Nat, k ≤ fs.length ∧ i = .int .i64 (k : Int) ∧ OF wr w.heap.size 108 out (sel num (fs.take k)) ∧ Below w.heap.size w wr

set_option maxRecDepth 100000 in
set_option maxHeartbeats 1600000 in
theorem all_any (A : Option Addr) (cap : Nat) (fs : List Fld) (num : Int) (w : World) (hfl : fs.length + 1 ≤ 2900000000000) (hbulk : bulkF fs + 1 ≤ 17592186044416) (hb : RF w w.heap.size A fs) :
    Calls Tryz.prog 86 #[.slice A fs.length cap, .int .i64 num] w fun e w' => ∃ v, e = .returned v ∧ OF w' w.heap.size 108 v (sel num fs) ∧ Below w.heap.size w w' := by
  go_enter Tryz.func86, Tryz.ntmps86
  go_wp2
  go_loopw [5, 10] (fun out i wr => AArel num fs w out i wr) (fun _ i _ => fs.length - (intOf i).toNat)
  case atStart => exact ⟨0, Nat.zero_le _, rfl, OF.nil _ _ _, Below.refl _ _⟩
  case round =>
    obtain ⟨k, hk, rfl, hown, hbel⟩ := hrel
    have hsz := hbel.size
    by_cases hlt : k < fs.length
    · obtain ⟨b, off, dv, rfl, hbb, hdv, a0', a1', a2', a3'⟩ := hb.at_ hlt
      have a0 := (hbel.cell (p := ⟨b, _, none⟩) hbb).trans a0'
      have a1 := (hbel.cell (p := ⟨b, _, none⟩) hbb).trans a1'
      have a2 := (hbel.cell (p := ⟨b, _, none⟩) hbb).trans a2'
      have a3 := (hbel.cell (p := ⟨b, _, none⟩) hbb).trans a3'
      clear a0' a1' a2' a3'
      have hkl : (k : Int) < (fs.length : Int) := by omega
      obtain ⟨Ad, cd, rfl, hld, hmd, hrd⟩ := hdv
      have HY := Lib.hid (sel_snoc_yes (num := num) hlt)
      have HN := Lib.hid (sel_snoc_no (num := num) hlt)
      have hlk : (sel num (fs.take k)).length ≤ k := sel_take_len _ _ _
      have hdb := data_bulk hlt
      generalize fs[k] = f at *
      obtain ⟨fnum, wire, x, data⟩ := f
      dsimp only at *
      by_cases hnum : fnum = num
      · subst hnum
        have HY := Lib.hid (HY.out rfl)
        have hr1 := ((hrd.below hbel).more hsz)
        have hmk : OB ((wr.alloc (.cells #[.int .i64 fnum, .int .i64 wire, .int .u64 x, .slice Ad data.length cd] 108)).alloc (.cells #[] 5)) (wr.heap.size + 1) (.slice (some ⟨wr.heap.size + 1, 0, none⟩) 0 0) [] := by
          have := OB.made (wr.alloc (.cells #[.int .i64 fnum, .int .i64 wire, .int .u64 x, .slice Ad data.length cd] 108)) (wr.heap.size + 1) (by simp)
          simpa using this
        go_wp2_with (first
          | (at_builtin; refine append_bytes rfl _ _ rfl hmk rfl data rfl rfl ((hr1.alloc (Nat.le_refl _) _).alloc (by simp) _) (by simp; omega) (by simp) ?_; intro v2 w2 ho2 hg2 ha2
             have hk2 : Blk w2 wr.heap.size 108 #[.int .i64 fnum, .int .i64 wire, .int .u64 x, .slice Ad data.length cd] := ((Blk.new wr _ _).alloc _).grown hg2 (by simp [Value.ownBlock])
             obtain ⟨g0, g1, g2, g3⟩ := blk4 hk2
             have f3 := hk2.frozen 3
             have hb2 : Below wr.heap.size wr w2 := (((Below.refl wr.heap.size wr).alloc (Nat.le_refl _) _).alloc (by simp) _).grown hg2 (by simp; omega) (by simp [Value.ownBlock])
             obtain ⟨A2, n2, c2, rfl, hn2, -⟩ := ho2.form2)
          | (at_builtin
             have hbw := hb2.setCell (p := ⟨wr.heap.size, 3, none⟩) (Nat.le_refl _) (.slice A2 n2 c2)
             have ho3 := (ho2.setLow (p := ⟨wr.heap.size, 3, none⟩) (by simp) (.slice A2 n2 c2))
             go_must (refine append_field 69 108 (by kernel_rfl) info_f (by decide) rfl _ _ rfl hown hbw rfl rfl (by simp) ⟨fnum, wire, x, data⟩ rfl rfl rfl (ho3.mono (by simp)) (by omega) hsz ?_; intro v' w' ho hg ha)))
        go_roundw
        case rel => exact ⟨k + 1, by omega, by go_num, by rw [HY.out]; exact ho, grown_belowF (hown.below hbw (Nat.le_refl _)).ofd hg (by have := hbw.size; omega) (Nat.le_refl _) (hbel.trans (hbw.mono hsz))⟩
        case measure => simp [intOf]; omega
      · go_wp2
        go_roundw
        case rel => exact ⟨k + 1, by omega, by go_num, by rw [HN.out hnum]; exact hown.below ((Below.refl wr.heap.size wr).alloc (Nat.le_refl _) _) (Nat.le_refl _), hbel.alloc hsz _⟩
        case measure => simp [intOf]; omega
    · have hk' : k = fs.length := by omega
      subst hk'
      rw [List.take_length] at hown
      go_wp2
      go_ret
      exact ⟨u5, rfl, hown, hbel⟩
end Go.Proofs.YtlhpmlknmgocoaaGreat

/- The contracts of Joined, of both sides. -/
namespace Go.Proofs.YtlhpmlknmgocoaaGreat
open Go.RowKit

/-- all bytes, one behind the other, of fields that are all of bytes -/
def jn : List Fld → Option (List UInt8)
  | [] => some []
  | f :: r => if f.wire = 2 then (jn r).map (f.data ++ ·) else none
def JN (fs : List Fld) (k : Nat) (out : List UInt8) : Prop := k ≤ fs.length ∧ out.length + bulkF (fs.drop k) ≤ bulkF fs ∧ jn fs = (jn (fs.drop k)).map (out ++ ·)
theorem JN.start (fs : List Fld) : JN fs 0 [] := ⟨Nat.zero_le _, by simp, by simp⟩
theorem JN.last {fs : List Fld} {k : Nat} {out : List UInt8} (h : JN fs k out) (hk : k = fs.length) : jn fs = some out := by
  rw [h.2.2, hk, List.drop_length]; simp [jn]
theorem JN.bad {fs : List Fld} {k : Nat} {out : List UInt8} (h : JN fs k out) (hk : k < fs.length) (hb : ¬ fs[k].wire = 2) : jn fs = none := by
  rw [h.2.2, List.drop_eq_getElem_cons hk]; simp [jn, hb]
theorem JN.step {fs : List Fld} {k : Nat} {out : List UInt8} (h : JN fs k out) (hk : k < fs.length) (hb : fs[k].wire = 2) : JN fs (k + 1) (out ++ fs[k].data) := by
  obtain ⟨h1, h2, h3⟩ := h
  rw [List.drop_eq_getElem_cons hk] at h2 h3
  refine ⟨by omega, ?_, ?_⟩
  · simp only [bulkF] at h2
    rw [List.length_append]; omega
  · rw [h3]
    simp only [jn, hb, if_pos]
    cases jn (fs.drop (k + 1)) <;> simp
theorem JN.room {fs : List Fld} {k : Nat} {out : List UInt8} (h : JN fs k out) (hk : k < fs.length) : out.length + fs[k].data.length + 1 ≤ bulkF fs := by
  have := h.2.1
  rw [List.drop_eq_getElem_cons hk] at this
  simp only [bulkF] at this
  omega
/-- what Joined answers: of the fields of the number -/
def JR (w : World) (a : List Fld) (e : Ending) (w' : World) : Prop :=
  ∃ v b er, e = .returned (.tuple #[v, .bool b, .int .i64 er]) ∧ OB w' w.heap.size v ((jn a).getD []) ∧ Below w.heap.size w w' ∧ b = (match jn a with | none => false | some _ => decide (0 < a.length)) ∧ er = (match jn a with | none => 6 | some _ => 0)
theorem JR.bad {w w' : World} {a : List Fld} (h : jn a = none) (hb : Below w.heap.size w w') : JR w a (.returned (.tuple #[.slice none 0 0, .bool false, .int .i64 6])) w' := by
  refine ⟨_, _, _, rfl, ?_, hb, ?_, ?_⟩ <;> rw [h]
  exact OB.nil _ _
theorem JR.good {w w' : World} {a : List Fld} {l : List UInt8} {v : Value} {b : Bool} (h : jn a = some l) (ho : OB w' w.heap.size v l) (hb : Below w.heap.size w w') (he : b = decide (0 < a.length)) : JR w a (.returned (.tuple #[v, .bool b, .int .i64 0])) w' := by
  refine ⟨_, _, _, rfl, ?_, hb, ?_, ?_⟩ <;> rw [h]
  · exact ho
  · exact he

theorem sel_yes {num : Int} {f : Fld} {r : List Fld} (hn : f.num = num) : sel num (f :: r) = f :: sel num r := by simp [sel, hn]
theorem sel_no {num : Int} {f : Fld} {r : List Fld} (hn : ¬ f.num = num) : sel num (f :: r) = sel num r := by simp [sel, hn]
/-- Joined's own loop -/
def JS (num : Int) (fs : List Fld) (k : Nat) (out : List UInt8) (b : Bool) : Prop := k ≤ fs.length ∧ out.length + bulkF (fs.drop k) ≤ bulkF fs ∧ jn (sel num fs) = (jn (sel num (fs.drop k))).map (out ++ ·) ∧
  decide (0 < (sel num fs).length) = (b || decide (0 < (sel num (fs.drop k)).length))
theorem JS.start (num : Int) (fs : List Fld) : JS num fs 0 [] false := ⟨Nat.zero_le _, by simp, by simp, by simp⟩
theorem JS.last {num : Int} {fs : List Fld} {k : Nat} {out : List UInt8} {b : Bool} (h : JS num fs k out b) (hk : k = fs.length) : jn (sel num fs) = some out ∧ b = decide (0 < (sel num fs).length) := by
  obtain ⟨h1, h2, h3, h4⟩ := h
  rw [hk, List.drop_length] at h3 h4
  exact ⟨by rw [h3]; simp [jn, sel], by rw [h4]; simp [sel]⟩
theorem JS.bad {num : Int} {fs : List Fld} {k : Nat} {out : List UInt8} {b : Bool} (h : JS num fs k out b) (hk : k < fs.length) (hn : fs[k].num = num) (hw : ¬ fs[k].wire = 2) : jn (sel num fs) = none := by
  rw [h.2.2.1, List.drop_eq_getElem_cons hk, sel_yes hn]; simp [jn, hw]
theorem JS.skip {num : Int} {fs : List Fld} {k : Nat} {out : List UInt8} {b : Bool} (h : JS num fs k out b) (hk : k < fs.length) (hn : ¬ fs[k].num = num) : JS num fs (k + 1) out b := by
  obtain ⟨h1, h2, h3, h4⟩ := h
  rw [List.drop_eq_getElem_cons hk] at h2 h3 h4
  rw [sel_no hn] at h3 h4
  refine ⟨by omega, ?_, h3, h4⟩
  simp only [bulkF] at h2
  omega
theorem JS.step {num : Int} {fs : List Fld} {k : Nat} {out : List UInt8} {b : Bool} (h : JS num fs k out b) (hk : k < fs.length) (hn : fs[k].num = num) (hw : fs[k].wire = 2) : JS num fs (k + 1) (out ++ fs[k].data) true := by
  obtain ⟨h1, h2, h3, h4⟩ := h
  rw [List.drop_eq_getElem_cons hk] at h2 h3 h4
  rw [sel_yes hn] at h3 h4
  refine ⟨by omega, ?_, ?_, ?_⟩
  · simp only [bulkF] at h2
    rw [List.length_append]; omega
  · rw [h3]
    simp only [jn, hw, if_pos]
    cases jn (sel num (fs.drop (k + 1))) <;> simp
  · rw [h4]; simp
theorem JS.room {num : Int} {fs : List Fld} {k : Nat} {out : List UInt8} {b : Bool} (h : JS num fs k out b) (hk : k < fs.length) : out.length + fs[k].data.length + 1 ≤ bulkF fs := by
  have := h.2.1
  rw [List.drop_eq_getElem_cons hk] at this
  simp only [bulkF] at this
  omega
def JSrel (num : Int) (fs : List Fld) (w : World) (out is i : Value) (wr : World) : Prop := ∃ (k : Nat) (l : List UInt8) (b : Bool), i = .int .i64 (k : Int) ∧ is = .bool b ∧ JS num fs k l b ∧ OB wr w.heap.size out l ∧ Below w.heap.size w wr

set_option maxRecDepth 100000 in
set_option maxHeartbeats 1600000 in
theorem joined_any (A : Option Addr) (cap : Nat) (fs : List Fld) (num : Int) (w : World) (hfl : fs.length + 1 ≤ 2900000000000) (hbulk : bulkF fs + 1 ≤ 17592186044416) (hb : RF w w.heap.size A fs) :
    Calls Tryz.prog 64 #[.slice A fs.length cap, .int .i64 num] w (JR w (sel num fs)) := by
  go_enter Tryz.func64, Tryz.ntmps64
  go_wp2
  go_loopw [7, 8, 13] (fun out is i wr => JSrel num fs w out is i wr) (fun _ _ i _ => fs.length - (intOf i).toNat)
  case atStart => exact ⟨0, [], false, rfl, rfl, JS.start _ _, OB.nil _ _, Below.refl _ _⟩
  case round =>
    obtain ⟨k, l, bo, rfl, rfl, hin, hown, hbel⟩ := hrel
    have hsz := hbel.size
    have hk := hin.1
    by_cases hlt : k < fs.length
    · obtain ⟨b, off, dv, rfl, hbb, hdv, a0', a1', a2', a3'⟩ := hb.at_ hlt
      have a0 := (hbel.cell (p := ⟨b, _, none⟩) hbb).trans a0'
      have a1 := (hbel.cell (p := ⟨b, _, none⟩) hbb).trans a1'
      have a2 := (hbel.cell (p := ⟨b, _, none⟩) hbb).trans a2'
      have a3 := (hbel.cell (p := ⟨b, _, none⟩) hbb).trans a3'
      clear a0' a1' a2' a3'
      have HB := Lib.hid (hin.bad hlt)
      have HS := Lib.hid (hin.step hlt)
      have HN := Lib.hid (hin.skip hlt)
      have hdb := hin.room hlt
      obtain ⟨Ad, cd, rfl, hld, hmd, hrd⟩ := hdv
      clear hin
      generalize fs[k] = f at *
      obtain ⟨fnum, wire, x, data⟩ := f
      dsimp only at *
      have hr1 := ((hrd.below hbel).more hsz).alloc (Nat.le_refl _) (.cells #[.int .i64 fnum, .int .i64 wire, .int .u64 x, .slice Ad data.length cd] 108)
      by_cases hnum : fnum = num
      · subst hnum
        have hq : (fnum != fnum) = false := by simp
        by_cases hw2 : wire = 2
        · subst hw2
          go_wp2_with (at_builtin
                       go_must (refine append_bytes rfl _ _ rfl (hown.alloc _) rfl data rfl rfl hr1 (by omega) (by simp; omega) ?_; intro v2 w2 ho2 hg2 ha2))
          go_roundw
          case rel => exact ⟨k + 1, _, true, by go_num, rfl, HS.out rfl rfl, ho2, grown_below (hown.alloc _) hg2 (by simp; omega) (Nat.le_refl _) (hbel.alloc hsz _)⟩
          case measure => simp [intOf]; omega
        · have hq2 : (wire != 2) = true := by simpa using hw2
          go_wp2
          refine bodyPost_ret (by simp [results, Tryz.results64, go_sem]; rfl) rfl ?_
          exact JR.bad (HB.out (by trivial) hw2) (hbel.alloc hsz _)
      · have hq : (fnum != num) = true := by simpa using hnum
        go_wp2
        go_roundw
        case rel => exact ⟨k + 1, l, bo, by go_num, rfl, HN.out hnum, hown.alloc _, hbel.alloc hsz _⟩
        case measure => simp [intOf]; omega
    · have HL := Lib.hid (hin.last (by omega))
      go_wp2
      refine bodyPost_ret (by simp [results, Tryz.results64, go_sem]; rfl) rfl ?_
      exact JR.good HL.out.1 hown hbel HL.out.2

def JNrel (a : List Fld) (w : World) (out i : Value) (wr : World) : Prop := ∃ (k : Nat) (l : List UInt8), i = .int .i64 (k : Int) ∧ JN a k l ∧ OB wr w.heap.size out l ∧ Below w.heap.size w wr
theorem JR.after {w w1 w' : World} {a : List Fld} {e : Ending} (hb : Below w.heap.size w w1) (h : JR w1 a e w') : JR w a e w' := by
  obtain ⟨v, b, er, rfl, h2, h3, h4⟩ := h
  exact ⟨v, b, er, rfl, h2.mono hb.size, hb.trans (h3.mono hb.size), h4⟩

end Go.Proofs.YtlhpmlknmgocoaaGreat
