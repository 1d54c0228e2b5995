/- The contracts of Last, of both sides. -/
import Derived.Test.YthhanpfcnaokpaaJoined
namespace Go.Proofs.Ythhanpfcnaokpaa
open Go.RowKit

def zf : Fld := ⟨0, 0, 0, []⟩
def lastF (wire : Int) (a : List Fld) : Fld × Bool × Int := if a.all (fun f => decide (f.wire = wire)) then (match a.getLast? with | none => (zf, false, 0) | some f => (f, true, 0)) else (zf, false, 6)
theorem lastF_bad {wire : Int} {a : List Fld} {k : Nat} (hk : k < a.length) (h : ¬ a[k].wire = wire) : lastF wire a = (zf, false, 6) := by
  unfold lastF
  rw [if_neg]
  intro hall
  rw [List.all_eq_true] at hall
  have := hall _ (List.getElem_mem hk)
  simp at this
  exact h this
theorem all_of {wire : Int} {a : List Fld} (h : ∀ j (hj : j < a.length), a[j].wire = wire) : a.all (fun f => decide (f.wire = wire)) = true := by
  rw [List.all_eq_true]
  intro f hf
  obtain ⟨j, hj, rfl⟩ := List.getElem_of_mem hf
  simpa using h j hj
theorem lastF_nil (wire : Int) : lastF wire [] = (zf, false, 0) := rfl
theorem lastF_some {wire : Int} {a : List Fld} (h : ∀ j (hj : j < a.length), a[j].wire = wire) (hn : a.length - 1 < a.length) : lastF wire a = (a[a.length - 1], true, 0) := by
  unfold lastF
  rw [if_pos (all_of h), List.getLast?_eq_getElem?, List.getElem?_eq_getElem hn]

/-- a field of a row of the call's own, and its cells -/
theorem OFD.at_ {D : Value → List UInt8 → Prop} {w : World} {base n c : Nat} {e : TypeId} {A : Option Addr} {fs : List Fld} (h : OFD D w base e (.slice A n c) fs) {k : Nat} (hk : k < fs.length) :
    ∃ b cur dv, A = some ⟨b, 0, none⟩ ∧ base ≤ b ∧ Blk w b e cur ∧ D dv fs[k].data ∧ cur[k * 4]? = some (.int .i64 fs[k].num) ∧ cur[k * 4 + 1]? = some (.int .i64 fs[k].wire) ∧ cur[k * 4 + 2]? = some (.int .u64 (fs[k].x : Int)) ∧ cur[k * 4 + 3]? = some dv := by
  obtain ⟨ds, h1, h2, h3⟩ := h
  rcases h2.2 with ⟨he, hn⟩ | ⟨g, cap, cur, hv, hb, hg, hnc, hcm, hcs, htake⟩
  · omega
  · injection hv with e1 e2 e3
    have hkd : k < ds.length := by omega
    refine ⟨g, cur, ds[k], e1, hb, hg, h3 k hk hkd, ?_, ?_, ?_, ?_⟩
    · have h5 := fcells_get fs ds h1 k 0 hk hkd (by omega)
      rw [← htake, List.getElem?_take, if_pos (by omega)] at h5
      simpa [fcell] using h5
    · have h5 := fcells_get fs ds h1 k 1 hk hkd (by omega)
      rw [← htake, List.getElem?_take, if_pos (by omega)] at h5
      simpa [fcell] using h5
    · have h5 := fcells_get fs ds h1 k 2 hk hkd (by omega)
      rw [← htake, List.getElem?_take, if_pos (by omega)] at h5
      simpa [fcell] using h5
    · have h5 := fcells_get fs ds h1 k 3 hk hkd (by omega)
      rw [← htake, List.getElem?_take, if_pos (by omega)] at h5
      simpa [fcell] using h5
theorem OF.at_ {w : World} {base n c : Nat} {e : TypeId} {A : Option Addr} {fs : List Fld} (h : OF w base e (.slice A n c) fs) {k : Nat} (hk : k < fs.length) :
    ∃ b cur Ad nd cd, A = some ⟨b, 0, none⟩ ∧ base ≤ b ∧ Blk w b e cur ∧ OB w base (.slice Ad nd cd) fs[k].data ∧ cur[k * 4]? = some (.int .i64 fs[k].num) ∧ cur[k * 4 + 1]? = some (.int .i64 fs[k].wire) ∧ cur[k * 4 + 2]? = some (.int .u64 (fs[k].x : Int)) ∧ cur[k * 4 + 3]? = some (.slice Ad nd cd) := by
  obtain ⟨b, cur, dv, h1, h2, h3, h4, h5⟩ := h.ofd.at_ hk
  obtain ⟨Ad, nd, cd, rfl, -⟩ := h4.form2
  exact ⟨b, cur, Ad, nd, cd, h1, h2, h3, h4, h5⟩
theorem Blk.only {lo hi g : Nat} {W0 w : World} {t : TypeId} {cs : Array Value} (h : Blk W0 g t cs) (ho : Only lo hi W0 w) (hg : g < lo ∨ hi ≤ g) : Blk w g t cs := (ho.block g h.lt hg).trans h

/-- what Last answers, its bytes of the call's own -/
def LR (w : World) (r : Fld × Bool × Int) (e : Ending) (w' : World) : Prop :=
  ∃ A n c, e = .returned (.tuple #[.agg #[.int .i64 r.1.num, .int .i64 r.1.wire, .int .u64 (r.1.x : Int), .slice A n c], .bool r.2.1, .int .i64 r.2.2]) ∧ OB w' w.heap.size (.slice A n c) r.1.data ∧ Below w.heap.size w w'
theorem LR.mk {w w' : World} {r : Fld × Bool × Int} {f : Fld} {b : Bool} {er : Int} {A n c} (h : r = (f, b, er)) (ho : OB w' w.heap.size (.slice A n c) f.data) (hb : Below w.heap.size w w') :
    LR w r (.returned (.tuple #[.agg #[.int .i64 f.num, .int .i64 f.wire, .int .u64 (f.x : Int), .slice A n c], .bool b, .int .i64 er])) w' := by
  subst h; exact ⟨A, n, c, rfl, ho, hb⟩
def fcs (f : Fld) (A : Option Addr) (n c : Nat) : Array Value := #[.int .i64 f.num, .int .i64 f.wire, .int .u64 (f.x : Int), .slice A n c]
def LArel (wire : Int) (a : List Fld) (W1 : World) (g9 base : Nat) (is i : Value) (wr : World) : Prop :=
  ∃ (k : Nat) (f : Fld) (A : Option Addr) (n c : Nat), k ≤ a.length ∧ i = .int .i64 (k : Int) ∧ is = .bool (decide (0 < k)) ∧ Hid (∀ j (_ : j < a.length), j < k → a[j].wire = wire) ∧ Only g9 (g9 + 1) W1 wr ∧ Blk wr g9 40 #[.int .i64 f.num, .int .i64 f.wire, .int .u64 (f.x : Int), .slice A n c] ∧
    OB W1 base (.slice A n c) f.data ∧ Hid ((k = 0 → f = zf) ∧ ∀ _ : 0 < k, ∀ h' : k - 1 < a.length, f = a[k - 1])

/-- a field stored over a block of four cells -/
theorem Blk.four {w : World} {g : Nat} {t : TypeId} {c0 c1 c2 c3 : Value} (h : Blk w g t #[c0, c1, c2, c3]) (d0 d1 d2 d3 : Value) :
    Blk ((((w.setCell ⟨g, 0, none⟩ d0).setCell ⟨g, 1, none⟩ d1).setCell ⟨g, 2, none⟩ d2).setCell ⟨g, 3, none⟩ d3) g t #[d0, d1, d2, d3] := by
  have := (((h.set_ 0 d0).set_ 1 d1).set_ 2 d2).set_ 3 d3
  simpa using this
theorem last_out (w : World) (tmps : Array Value) (g : Nat) (c0 c1 c2 c3 b er : Value) (h6 : tmps.getD 6 undef = .pointer (some ⟨g, 0, none⟩)) (h7 : tmps.getD 7 undef = b) (h8 : tmps.getD 8 undef = er) (hk : Blk w g 40 #[c0, c1, c2, c3]) :
    (results Try.f29 tmps).run Try.prog w = .ok (.tuple #[.agg #[c0, c1, c2, c3], b, er]) w := by
  obtain ⟨k0, k1, k2, k3⟩ := blk4 hk
  subst h7 h8
  rw [Array.getD_eq_getD_getElem?] at h6
  simp [results, Try.results29, go_sem, h6, k0, k1, k2, k3]
  try rfl

set_option maxRecDepth 100000 in
set_option maxHeartbeats 1600000 in
theorem last_any (A : Option Addr) (cap : Nat) (fs : List Fld) (num wire : Int) (w : World) (hfl : fs.length + 1 ≤ 2900000000000) (hbulk : bulkF fs + 1 ≤ 17592186044416) (hb : RF w w.heap.size A fs) :
    Calls Try.prog 29 #[.slice A fs.length cap, .int .i64 num, .int .i64 wire] w (LR w (lastF wire (sel num fs))) := by
  go_enter Try.func29, Try.ntmps29
  go_wp2_with fail
  have hb2 : Below w.heap.size w ((w.alloc (.cells #[.int .i64 0, .int .i64 0, .int .u64 0, .slice none 0 0] 40)).alloc (.cells #[.int .i64 0, .int .i64 0, .int .u64 0, .slice none 0 0] 40)) := ((Below.refl w.heap.size w).alloc (Nat.le_refl _) _).alloc (by simp) _
  have hk6 := (Blk.new w 40 #[.int .i64 0, .int .i64 0, .int .u64 0, .slice none 0 0]).alloc (.cells #[.int .i64 0, .int .i64 0, .int .u64 0, .slice none 0 0] 40)
  have hk9 := Blk.new (w.alloc (.cells #[.int .i64 0, .int .i64 0, .int .u64 0, .slice none 0 0] 40)) 40 #[.int .i64 0, .int .i64 0, .int .u64 0, .slice none 0 0]
  refine (all_any A cap fs num _ hfl hbulk ((hb.below hb2).more hb2.size)).mono ?_
  rintro e W1 ⟨v, rfl, ho, hB1⟩
  have hk6 := hk6.below hB1 (by simp; omega)
  have hk9 := hk9.below hB1 (by simp)
  have hbw := hb2.trans (hB1.mono hb2.size)
  have hsz1 : w.heap.size + 2 ≤ W1.heap.size := by have := hB1.size; simpa using this
  have ho : OF W1 (w.heap.size + 2) 40 v (sel num fs) := by simpa using ho
  have hk9 : Blk W1 (w.heap.size + 1) 40 #[.int .i64 0, .int .i64 0, .int .u64 0, .slice none 0 0] := by simpa using hk9
  clear hb2 hB1 hb hbulk hfl
  obtain ⟨A1, n1, c1, rfl, hn1, hl1, hm1, -⟩ := ho.form2
  generalize sel num fs = gs at *
  subst hn1
  unfold maxLen at hm1
  go_wp2
  go_loopw [10, 17] (fun is i wr => LArel wire gs W1 (w.heap.size + 1) (w.heap.size + 2) is i wr) (fun _ i _ => gs.length - (intOf i).toNat)
  case atStart => exact ⟨0, zf, none, 0, 0, Nat.zero_le _, rfl, rfl, Lib.hid (fun _ _ h => absurd h (Nat.not_lt_zero _)), Only.refl _ _ _, hk9, OB.nil _ _, Lib.hid ⟨fun _ => rfl, fun h => absurd h (Nat.not_lt_zero _)⟩⟩
  case round =>
    clear hk9
    obtain ⟨k, f, Af, nf, cf, hk, rfl, rfl, HW, hon, hk9, hof, HF⟩ := hrel
    have hsz := hon.size
    have hk6 := hk6.only hon (.inl (by omega))
    have hlt9 : w.heap.size + 1 < wr.heap.size := by omega
    have hlt6 : w.heap.size < wr.heap.size := by omega
    have hne6 : w.heap.size ≠ wr.heap.size := by omega
    have hne9 : w.heap.size + 1 ≠ wr.heap.size := by omega
    obtain ⟨r0, r1, r2, r3⟩ := blk4 hk9
    have z0 := hk9.frozen 0
    have z1 := hk9.frozen 1
    have z2 := hk9.frozen 2
    have z3 := hk9.frozen 3
    have y0 := hk6.frozen 0
    have y1 := hk6.frozen 1
    have y2 := hk6.frozen 2
    have y3 := hk6.frozen 3
    obtain ⟨x0, x1, x2, x3⟩ := blk4 hk6
    have hblw : Below w.heap.size w wr := hbw.trans (hon.below (by omega) (by omega))
    by_cases hlt : k < gs.length
    · obtain ⟨b, cur, Ad, nd, cd, rfl, hbb, hkb, hod, c0, c1', c2, c3⟩ := ho.at_ hlt
      have hkb := hkb.only hon (.inr (by omega))
      have a0 := (hkb.cell _).trans c0
      have a1 := (hkb.cell _).trans c1'
      have a2 := (hkb.cell _).trans c2
      have a3 := (hkb.cell _).trans c3
      clear c0 c1' c2 c3
      have HBAD := Lib.hid (lastF_bad (wire := wire) hlt)
      have HK : Hid (∀ h' : k + 1 - 1 < gs.length, gs[k] = gs[k + 1 - 1]) := Lib.hid (fun _ => rfl)
      have HW2 : Hid (gs[k].wire = wire → ∀ j (_ : j < gs.length), j < k + 1 → gs[j].wire = wire) := Lib.hid (fun hh j hj hjk => by
        by_cases e : j = k
        · subst e; exact hh
        · exact HW.out j hj (by omega))
      generalize hgk : gs[k] = f' at *
      obtain ⟨fnum, fwire, x, data⟩ := f'
      dsimp only at *
      by_cases hw : fwire = wire
      · subst hw
        have hq : (fwire != fwire) = false := by simp
        go_wp2
        go_roundw
        case rel => exact ⟨k + 1, ⟨fnum, fwire, x, data⟩, Ad, nd, cd, by omega, by go_num, by simp, Lib.hid (HW2.out rfl), (((((hon.setCell ⟨by simp, .inl (by simp)⟩ _).setCell ⟨by simp, .inl (by simp)⟩ _).setCell ⟨by simp, .inl (by simp)⟩ _).setCell ⟨by simp, .inl (by simp)⟩ _).alloc _), (hk9.four _ _ _ _).alloc _, hod, Lib.hid ⟨by omega, fun _ h' => hgk.symm.trans (HK.out h')⟩⟩
        case measure => simp [intOf]; omega
      · have hq : (fwire != wire) = true := by simpa using hw
        go_wp2
        refine bodyPost_ret (last_out _ _ w.heap.size (.int .i64 0) (.int .i64 0) (.int .u64 0) (.slice none 0 0) _ _ rfl rfl rfl ?_) rfl ?_
        · exact (hk6.four _ _ _ _).alloc _
        · exact LR.mk (f := zf) (HBAD.out hw) (OB.nil _ _) (((((hblw.setCell (Nat.le_refl _) _).setCell (Nat.le_refl _) _).setCell (Nat.le_refl _) _).setCell (Nat.le_refl _) _).alloc (by simp; omega) _)
    · have hkl : k = gs.length := by omega
      have HL : Hid (lastF wire gs = (f, decide (0 < k), 0)) := Lib.hid (by
        subst hkl
        by_cases h0 : gs.length = 0
        · have e := List.eq_nil_of_length_eq_zero h0
          have := HF.out.1 h0
          subst this
          subst e
          rfl
        · rw [lastF_some (fun j hj => HW.out j hj hj) (by omega), ← HF.out.2 (by omega) (by omega)]
          have : decide (0 < gs.length) = true := by simp; omega
          rw [this])
      go_wp2
      refine bodyPost_ret (last_out _ _ w.heap.size (.int .i64 f.num) (.int .i64 f.wire) (.int .u64 (f.x : Int)) (.slice Af nf cf) _ _ rfl rfl rfl ?_) rfl ?_
      · exact hk6.four _ _ _ _
      · refine LR.mk HL.out ?_ ((((hblw.setCell (Nat.le_refl _) _).setCell (Nat.le_refl _) _).setCell (Nat.le_refl _) _).setCell (Nat.le_refl _) _)
        exact ((((hof.only hon (Nat.le_refl _)).setLow (by simp) _).setLow (by simp) _).setLow (by simp) _).setLow (by simp) _ |>.mono (by omega)

/-- the document's: its bytes are shared -/
def RLR (w : World) (r : Fld × Bool × Int) (e : Ending) (w' : World) : Prop :=
  ∃ A n c, e = .returned (.tuple #[.agg #[.int .i64 r.1.num, .int .i64 r.1.wire, .int .u64 (r.1.x : Int), .slice A n c], .bool r.2.1, .int .i64 r.2.2]) ∧ DV w' w'.heap.size (.slice A n c) r.1.data ∧ Below w.heap.size w w'
theorem RLR.mk {w w' : World} {r : Fld × Bool × Int} {f : Fld} {b : Bool} {er : Int} {A n c} (h : r = (f, b, er)) (ho : DV w' w'.heap.size (.slice A n c) f.data) (hb : Below w.heap.size w w') :
    RLR w r (.returned (.tuple #[.agg #[.int .i64 f.num, .int .i64 f.wire, .int .u64 (f.x : Int), .slice A n c], .bool b, .int .i64 er])) w' := by
  subst h; exact ⟨A, n, c, rfl, ho, hb⟩
theorem rlast_out (w : World) (tmps : Array Value) (g : Nat) (c0 c1 c2 c3 b er : Value) (h6 : tmps.getD 6 undef = .pointer (some ⟨g, 0, none⟩)) (h7 : tmps.getD 7 undef = b) (h8 : tmps.getD 8 undef = er) (hk : Blk w g 55 #[c0, c1, c2, c3]) :
    (results Try.f30 tmps).run Try.prog w = .ok (.tuple #[.agg #[c0, c1, c2, c3], b, er]) w := by
  obtain ⟨k0, k1, k2, k3⟩ := blk4 hk
  subst h7 h8
  rw [Array.getD_eq_getD_getElem?] at h6
  simp [results, Try.results30, go_sem, h6, k0, k1, k2, k3]
  try rfl
def RLrel (wire : Int) (a : List Fld) (W1 : World) (i : Value) (wr : World) : Prop := ∃ k : Nat, k ≤ a.length ∧ i = .int .i64 (k : Int) ∧ Hid (∀ j (_ : j < a.length), j < k → a[j].wire = wire) ∧ wr = W1

set_option maxRecDepth 100000 in
set_option maxHeartbeats 1600000 in
theorem rlast_any (A : Option Addr) (cap : Nat) (fs : List Fld) (num wire : Int) (w : World) (hfl : fs.length + 1 ≤ 2900000000000) (hb : RF w w.heap.size A fs) :
    Calls Try.prog 30 #[.slice A fs.length cap, .int .i64 num, .int .i64 wire] w (RLR w (lastF wire (sel num fs))) := by
  go_enter Try.func30, Try.ntmps30
  go_wp2_with fail
  have hb2 : Below w.heap.size w (w.alloc (.cells #[.int .i64 0, .int .i64 0, .int .u64 0, .slice none 0 0] 55)) := (Below.refl w.heap.size w).alloc (Nat.le_refl _) _
  have hk6 := Blk.new w 55 #[.int .i64 0, .int .i64 0, .int .u64 0, .slice none 0 0]
  refine (rall_B w.heap.size A cap fs num _ hfl (hb.below hb2) hb2.size).mono ?_
  rintro e W1 ⟨v, rfl, ho, hB1⟩
  have hk6 := hk6.below hB1 (by simp)
  have hbw := hb2.trans (hB1.mono hb2.size)
  have hsz1 : w.heap.size + 1 ≤ W1.heap.size := by have := hB1.size; simpa using this
  have ho : OFR w.heap.size W1 (w.heap.size + 1) 55 v (sel num fs) := by simpa using ho
  obtain ⟨A1, n1, c1, rfl, hn1, hl1, hm1, -⟩ := ho.form (by omega)
  clear hb2 hB1 hb hfl
  have hlen := sel_len num fs
  generalize sel num fs = gs at *
  subst hn1
  unfold maxLen at hm1
  go_wp2
  go_loopw [10] (fun i wr => RLrel wire gs W1 i wr) (fun i _ => gs.length - (intOf i).toNat)
  case atStart => exact ⟨0, Nat.zero_le _, rfl, Lib.hid (fun _ _ h => absurd h (Nat.not_lt_zero _)), rfl⟩
  case round =>
    obtain ⟨k, hk, rfl, HW, rfl⟩ := hrel
    have z0 := hk6.frozen 0
    have z1 := hk6.frozen 1
    have z2 := hk6.frozen 2
    have z3 := hk6.frozen 3
    have hblw : Below w.heap.size w wr := hbw
    obtain ⟨x0, x1, x2, x3⟩ := blk4 hk6
    by_cases hlt : k < gs.length
    · obtain ⟨b, cur, dv, rfl, hbb, hkb, hdv, a0, a1, a2, a3⟩ := OFD.at_ ho hlt
      have a0 := (hkb.cell _).trans a0
      have a1 := (hkb.cell _).trans a1
      have a2 := (hkb.cell _).trans a2
      have a3 := (hkb.cell _).trans a3
      obtain ⟨Ad, cd, rfl, hld, hmd, hrd⟩ := hdv
      have HBAD := Lib.hid (lastF_bad (wire := wire) hlt)
      have HW2 : Hid (gs[k].wire = wire → ∀ j (_ : j < gs.length), j < k + 1 → gs[j].wire = wire) := Lib.hid (fun hh j hj hjk => by
        by_cases e : j = k
        · subst e; exact hh
        · exact HW.out j hj (by omega))
      generalize hgk : gs[k] = f' at *
      obtain ⟨fnum, fwire, x, data⟩ := f'
      dsimp only at *
      by_cases hw : fwire = wire
      · subst hw
        have hq : (fwire != fwire) = false := by simp
        go_wp2
        go_roundw
        case rel => exact ⟨k + 1, by omega, by go_num, Lib.hid (HW2.out rfl), rfl⟩
        case measure => simp [intOf]; omega
      · have hq : (fwire != wire) = true := by simpa using hw
        go_wp2
        refine bodyPost_ret (rlast_out _ _ w.heap.size (.int .i64 0) (.int .i64 0) (.int .u64 0) (.slice none 0 0) _ _ rfl rfl rfl ?_) rfl ?_
        · exact hk6.four _ _ _ _
        · exact RLR.mk (f := zf) (HBAD.out hw) ⟨none, 0, rfl, Nat.le_refl _, by decide, RB.nil _ _ _⟩ ((((hblw.setCell (Nat.le_refl _) _).setCell (Nat.le_refl _) _).setCell (Nat.le_refl _) _).setCell (Nat.le_refl _) _)
    · have hkl : k = gs.length := by omega
      subst hkl
      by_cases h0 : gs.length = 0
      · have e := List.eq_nil_of_length_eq_zero h0
        subst e
        go_wp2
        refine bodyPost_ret (rlast_out _ _ w.heap.size (.int .i64 0) (.int .i64 0) (.int .u64 0) (.slice none 0 0) _ _ rfl rfl rfl ?_) rfl ?_
        · exact hk6.four _ _ _ _
        · exact RLR.mk (f := zf) rfl ⟨none, 0, rfl, Nat.le_refl _, by decide, RB.nil _ _ _⟩ ((((hblw.setCell (Nat.le_refl _) _).setCell (Nat.le_refl _) _).setCell (Nat.le_refl _) _).setCell (Nat.le_refl _) _)
      · have hlt : gs.length - 1 < gs.length := by omega
        obtain ⟨b, cur, dv, rfl, hbb, hkb, hdv, a0, a1, a2, a3⟩ := OFD.at_ ho hlt
        have a0 := (hkb.cell _).trans a0
        have a1 := (hkb.cell _).trans a1
        have a2 := (hkb.cell _).trans a2
        have a3 := (hkb.cell _).trans a3
        obtain ⟨Ad, cd, rfl, hld, hmd, hrd⟩ := hdv
        have HL := Lib.hid (lastF_some (fun j hj => HW.out j hj hj) hlt)
        generalize hgk : gs[gs.length - 1] = f' at *
        have h00 : ((gs.length : Int) == 0) = false := by rw [beq_eq_false_iff_ne]; omega
        have hsub : IntKind.i64.wrap ((gs.length : Int) - 1) = ((gs.length - 1 : Nat) : Int) := by rw [IntWalk.i64_in _ (by omega)]; omega
        have hsub2 : (gs.length : Int) - 1 = ((gs.length - 1 : Nat) : Int) := by omega
        have hk1 : ((gs.length - 1 : Nat) : Int) < (gs.length : Int) := by omega
        have hk2 : (0 : Int) ≤ ((gs.length - 1 : Nat) : Int) := by omega
        go_wp2
        refine bodyPost_ret (rlast_out _ _ w.heap.size (.int .i64 f'.num) (.int .i64 f'.wire) (.int .u64 (f'.x : Int)) (.slice Ad f'.data.length cd) _ _ rfl rfl rfl ?_) rfl ?_
        · exact hk6.four _ _ _ _
        · refine RLR.mk HL.out ⟨Ad, cd, rfl, hld, hmd, ?_⟩ ((((hblw.setCell (Nat.le_refl _) _).setCell (Nat.le_refl _) _).setCell (Nat.le_refl _) _).setCell (Nat.le_refl _) _)
          exact ((((hrd.setCell (Nat.le_refl _) _).setCell (Nat.le_refl _) _).setCell (Nat.le_refl _) _).setCell (Nat.le_refl _) _).more (by simp [World.setCell]; omega)
end Go.Proofs.Ythhanpfcnaokpaa
