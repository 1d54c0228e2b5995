import Derived.Test.YtlhpmlknmgocoaaGreatPB5
import Derived.Test.YtlhpmlknmgocoaaGreatPB3
/- The contracts of Last, of both sides. -/
namespace Go.Proofs.YtlhpmlknmgocoaaGreat
set_option linter.unusedSimpArgs false
set_option linter.unusedVariables false
open Go.RowKit

def zf : Fld := ⟨0, 0, 0, []⟩
def lastF (wire : Int) (a : List Fld) : Fld × Bool × Int := if a.all (fun f => decide (f.wire = wire)) then (match a.getLast? with | none => (zf, false, 0) | some f => (f, true, 0)) else (zf, false, 6)
theorem lastF_bad {wire : Int} {a : List Fld} {k : Nat} (hk : k < a.length) (h : ¬ a[k].wire = wire) : lastF wire a = (zf, false, 6) := by
  unfold lastF
  rw [if_neg]
  intro hall
  rw [List.all_eq_true] at hall
  have := hall _ (List.getElem_mem hk)
  simp at this
  exact h this
theorem all_of {wire : Int} {a : List Fld} (h : ∀ j (hj : j < a.length), a[j].wire = wire) : a.all (fun f => decide (f.wire = wire)) = true := by
  rw [List.all_eq_true]
  intro f hf
  obtain ⟨j, hj, rfl⟩ := List.getElem_of_mem hf
  simpa using h j hj
theorem lastF_nil (wire : Int) : lastF wire [] = (zf, false, 0) := rfl
theorem lastF_some {wire : Int} {a : List Fld} (h : ∀ j (hj : j < a.length), a[j].wire = wire) (hn : a.length - 1 < a.length) : lastF wire a = (a[a.length - 1], true, 0) := by
  unfold lastF
  rw [if_pos (all_of h), List.getLast?_eq_getElem?, List.getElem?_eq_getElem hn]

/-- a field of a row of the call's own, and its cells -/
theorem OFD.at_ {D : Value → List UInt8 → Prop} {w : World} {base n c : Nat} {e : TypeId} {A : Option Addr} {fs : List Fld} (h : OFD D w base e (.slice A n c) fs) {k : Nat} (hk : k < fs.length) :
    ∃ b cur dv, A = some ⟨b, 0, none⟩ ∧ base ≤ b ∧ Blk w b e cur ∧ D dv fs[k].data ∧ cur[k * 4]? = some (.int .i64 fs[k].num) ∧ cur[k * 4 + 1]? = some (.int .i64 fs[k].wire) ∧ cur[k * 4 + 2]? = some (.int .u64 (fs[k].x : Int)) ∧ cur[k * 4 + 3]? = some dv := by
  obtain ⟨ds, h1, h2, h3⟩ := h
  rcases h2.2 with ⟨he, hn⟩ | ⟨g, cap, cur, hv, hb, hg, hnc, hcm, hcs, htake⟩
  · omega
  · injection hv with e1 e2 e3
    have hkd : k < ds.length := by omega
    refine ⟨g, cur, ds[k], e1, hb, hg, h3 k hk hkd, ?_, ?_, ?_, ?_⟩
    · have h5 := fcells_get fs ds h1 k 0 hk hkd (by omega)
      rw [← htake, List.getElem?_take, if_pos (by omega)] at h5
      simpa [fcell] using h5
    · have h5 := fcells_get fs ds h1 k 1 hk hkd (by omega)
      rw [← htake, List.getElem?_take, if_pos (by omega)] at h5
      simpa [fcell] using h5
    · have h5 := fcells_get fs ds h1 k 2 hk hkd (by omega)
      rw [← htake, List.getElem?_take, if_pos (by omega)] at h5
      simpa [fcell] using h5
    · have h5 := fcells_get fs ds h1 k 3 hk hkd (by omega)
      rw [← htake, List.getElem?_take, if_pos (by omega)] at h5
      simpa [fcell] using h5
theorem OF.at_ {w : World} {base n c : Nat} {e : TypeId} {A : Option Addr} {fs : List Fld} (h : OF w base e (.slice A n c) fs) {k : Nat} (hk : k < fs.length) :
    ∃ b cur Ad nd cd, A = some ⟨b, 0, none⟩ ∧ base ≤ b ∧ Blk w b e cur ∧ OB w base (.slice Ad nd cd) fs[k].data ∧ cur[k * 4]? = some (.int .i64 fs[k].num) ∧ cur[k * 4 + 1]? = some (.int .i64 fs[k].wire) ∧ cur[k * 4 + 2]? = some (.int .u64 (fs[k].x : Int)) ∧ cur[k * 4 + 3]? = some (.slice Ad nd cd) := by
  obtain ⟨b, cur, dv, h1, h2, h3, h4, h5⟩ := h.ofd.at_ hk
  obtain ⟨Ad, nd, cd, rfl, -⟩ := h4.form2
  exact ⟨b, cur, Ad, nd, cd, h1, h2, h3, h4, h5⟩
theorem Blk.only {lo hi g : Nat} {W0 w : World} {t : TypeId} {cs : Array Value} (h : Blk W0 g t cs) (ho : Only lo hi W0 w) (hg : g < lo ∨ hi ≤ g) : Blk w g t cs := (ho.block g h.lt hg).trans h

/-- what Last answers, its bytes of the call's own -/
def LR (w : World) (r : Fld × Bool × Int) (e : Ending) (w' : World) : Prop :=
  ∃ A n c, e = .returned (.tuple #[.agg #[.int .i64 r.1.num, .int .i64 r.1.wire, .int .u64 (r.1.x : Int), .slice A n c], .bool r.2.1, .int .i64 r.2.2]) ∧ OB w' w.heap.size (.slice A n c) r.1.data ∧ Below w.heap.size w w'
theorem LR.mk {w w' : World} {r : Fld × Bool × Int} {f : Fld} {b : Bool} {er : Int} {A n c} (h : r = (f, b, er)) (ho : OB w' w.heap.size (.slice A n c) f.data) (hb : Below w.heap.size w w') :
    LR w r (.returned (.tuple #[.agg #[.int .i64 f.num, .int .i64 f.wire, .int .u64 (f.x : Int), .slice A n c], .bool b, .int .i64 er])) w' := by
  subst h; exact ⟨A, n, c, rfl, ho, hb⟩
def fcs (f : Fld) (A : Option Addr) (n c : Nat) : Array Value := #[.int .i64 f.num, .int .i64 f.wire, .int .u64 (f.x : Int), .slice A n c]
def LArel (wire : Int) (a : List Fld) (W1 : World) (g9 base : Nat) (is i : Value) (wr : World) : Prop :=
  ∃ (k : Nat) (f : Fld) (A : Option Addr) (n c : Nat), k ≤ a.length ∧ i = .int .i64 (k : Int) ∧ is = .bool (decide (0 < k)) ∧ Hid (∀ j (_ : j < a.length), j < k → a[j].wire = wire) ∧ Only g9 (g9 + 1) W1 wr ∧ Blk wr g9 108 #[.int .i64 f.num, .int .i64 f.wire, .int .u64 (f.x : Int), .slice A n c] ∧
    OB W1 base (.slice A n c) f.data ∧ Hid ((k = 0 → f = zf) ∧ ∀ _ : 0 < k, ∀ h' : k - 1 < a.length, f = a[k - 1])

/-- a field stored over a block of four cells -/
theorem Blk.four {w : World} {g : Nat} {t : TypeId} {c0 c1 c2 c3 : Value} (h : Blk w g t #[c0, c1, c2, c3]) (d0 d1 d2 d3 : Value) :
    Blk ((((w.setCell ⟨g, 0, none⟩ d0).setCell ⟨g, 1, none⟩ d1).setCell ⟨g, 2, none⟩ d2).setCell ⟨g, 3, none⟩ d3) g t #[d0, d1, d2, d3] := by
  have := (((h.set_ 0 d0).set_ 1 d1).set_ 2 d2).set_ 3 d3
  simpa using this
theorem last_out (w : World) (tmps : Array Value) (g : Nat) (c0 c1 c2 c3 b er : Value) (h6 : tmps.getD 6 undef = .pointer (some ⟨g, 0, none⟩)) (h7 : tmps.getD 7 undef = b) (h8 : tmps.getD 8 undef = er) (hk : Blk w g 108 #[c0, c1, c2, c3]) :
    (results Tryz.f63 tmps).run Tryz.prog w = .ok (.tuple #[.agg #[c0, c1, c2, c3], b, er]) w := by
  obtain ⟨k0, k1, k2, k3⟩ := blk4 hk
  subst h7 h8
  rw [Array.getD_eq_getD_getElem?] at h6
  simp [results, Tryz.results63, go_sem, h6, k0, k1, k2, k3]
  try rfl

set_option maxRecDepth 100000 in
set_option maxHeartbeats 1600000 in
theorem last_any (A : Option Addr) (cap : Nat) (fs : List Fld) (num wire : Int) (w : World) (hfl : fs.length + 1 ≤ 2900000000000) (hbulk : bulkF fs + 1 ≤ 17592186044416) (hb : RF w w.heap.size A fs) :
    Calls Tryz.prog 63 #[.slice A fs.length cap, .int .i64 num, .int .i64 wire] w (LR w (lastF wire (sel num fs))) := by
  go_enter Tryz.func63, Tryz.ntmps63
  go_wp2_with fail
  have hb2 : Below w.heap.size w ((w.alloc (.cells #[.int .i64 0, .int .i64 0, .int .u64 0, .slice none 0 0] 108)).alloc (.cells #[.int .i64 0, .int .i64 0, .int .u64 0, .slice none 0 0] 108)) := ((Below.refl w.heap.size w).alloc (Nat.le_refl _) _).alloc (by simp) _
  have hk6 := (Blk.new w 108 #[.int .i64 0, .int .i64 0, .int .u64 0, .slice none 0 0]).alloc (.cells #[.int .i64 0, .int .i64 0, .int .u64 0, .slice none 0 0] 108)
  have hk9 := Blk.new (w.alloc (.cells #[.int .i64 0, .int .i64 0, .int .u64 0, .slice none 0 0] 108)) 108 #[.int .i64 0, .int .i64 0, .int .u64 0, .slice none 0 0]
  refine (all_any A cap fs num _ hfl hbulk ((hb.below hb2).more hb2.size)).mono ?_
  rintro e W1 ⟨v, rfl, ho, hB1⟩
  have hk6 := hk6.below hB1 (by simp; omega)
  have hk9 := hk9.below hB1 (by simp)
  have hbw := hb2.trans (hB1.mono hb2.size)
  have hsz1 : w.heap.size + 2 ≤ W1.heap.size := by have := hB1.size; simpa using this
  have ho : OF W1 (w.heap.size + 2) 108 v (sel num fs) := by simpa using ho
  have hk9 : Blk W1 (w.heap.size + 1) 108 #[.int .i64 0, .int .i64 0, .int .u64 0, .slice none 0 0] := by simpa using hk9
  clear hb2 hB1 hb hbulk hfl
  obtain ⟨A1, n1, c1, rfl, hn1, hl1, hm1, -⟩ := ho.form2
  generalize sel num fs = gs at *
  subst hn1
  unfold maxLen at hm1
  go_wp2
  go_loopw [10, 17] (fun is i wr => LArel wire gs W1 (w.heap.size + 1) (w.heap.size + 2) is i wr) (fun _ i _ => gs.length - (intOf i).toNat)
  case atStart => exact ⟨0, zf, none, 0, 0, Nat.zero_le _, rfl, rfl, Lib.hid (fun _ _ h => absurd h (Nat.not_lt_zero _)), Only.refl _ _ _, hk9, OB.nil _ _, Lib.hid ⟨fun _ => rfl, fun h => absurd h (Nat.not_lt_zero _)⟩⟩
  case round =>
    clear hk9
    obtain ⟨k, f, Af, nf, cf, hk, rfl, rfl, HW, hon, hk9, hof, HF⟩ := hrel
    have hsz := hon.size
    have hk6 := hk6.only hon (.inl (by omega))
    have hlt9 : w.heap.size + 1 < wr.heap.size := by omega
    have hlt6 : w.heap.size < wr.heap.size := by omega
    have hne6 : w.heap.size ≠ wr.heap.size := by omega
    have hne9 : w.heap.size + 1 ≠ wr.heap.size := by omega
    obtain ⟨r0, r1, r2, r3⟩ := blk4 hk9
    have z0 := hk9.frozen 0
    have z1 := hk9.frozen 1
    have z2 := hk9.frozen 2
    have z3 := hk9.frozen 3
    have y0 := hk6.frozen 0
    have y1 := hk6.frozen 1
    have y2 := hk6.frozen 2
    have y3 := hk6.frozen 3
    obtain ⟨x0, x1, x2, x3⟩ := blk4 hk6
    have hblw : Below w.heap.size w wr := hbw.trans (hon.below (by omega) (by omega))
    by_cases hlt : k < gs.length
    · obtain ⟨b, cur, Ad, nd, cd, rfl, hbb, hkb, hod, c0, c1', c2, c3⟩ := ho.at_ hlt
      have hkb := hkb.only hon (.inr (by omega))
      have a0 := (hkb.cell _).trans c0
      have a1 := (hkb.cell _).trans c1'
      have a2 := (hkb.cell _).trans c2
      have a3 := (hkb.cell _).trans c3
      clear c0 c1' c2 c3
      have HBAD := Lib.hid (lastF_bad (wire := wire) hlt)
      have HK : Hid (∀ h' : k + 1 - 1 < gs.length, gs[k] = gs[k + 1 - 1]) := Lib.hid (fun _ => rfl)
      have HW2 : Hid (gs[k].wire = wire → ∀ j (_ : j < gs.length), j < k + 1 → gs[j].wire = wire) := Lib.hid (fun hh j hj hjk => by
        by_cases e : j = k
        · subst e; exact hh
        · exact HW.out j hj (by omega))
      generalize hgk : gs[k] = f' at *
      obtain ⟨fnum, fwire, x, data⟩ := f'
      dsimp only at *
      by_cases hw : fwire = wire
      · subst hw
        have hq : (fwire != fwire) = false := by simp
        go_wp2
        go_roundw
        case rel => exact ⟨k + 1, ⟨fnum, fwire, x, data⟩, Ad, nd, cd, by omega, by go_num, by simp, Lib.hid (HW2.out rfl), (((((hon.setCell ⟨by simp, .inl (by simp)⟩ _).setCell ⟨by simp, .inl (by simp)⟩ _).setCell ⟨by simp, .inl (by simp)⟩ _).setCell ⟨by simp, .inl (by simp)⟩ _).alloc _), (hk9.four _ _ _ _).alloc _, hod, Lib.hid ⟨by omega, fun _ h' => hgk.symm.trans (HK.out h')⟩⟩
        case measure => simp [intOf]; omega
      · have hq : (fwire != wire) = true := by simpa using hw
        go_wp2
        refine bodyPost_ret (last_out _ _ w.heap.size (.int .i64 0) (.int .i64 0) (.int .u64 0) (.slice none 0 0) _ _ rfl rfl rfl ?_) rfl ?_
        · exact (hk6.four _ _ _ _).alloc _
        · exact LR.mk (f := zf) (HBAD.out hw) (OB.nil _ _) (((((hblw.setCell (Nat.le_refl _) _).setCell (Nat.le_refl _) _).setCell (Nat.le_refl _) _).setCell (Nat.le_refl _) _).alloc (by simp; omega) _)
    · have hkl : k = gs.length := by omega
      have HL : Hid (lastF wire gs = (f, decide (0 < k), 0)) := Lib.hid (by
        subst hkl
        by_cases h0 : gs.length = 0
        · have e := List.eq_nil_of_length_eq_zero h0
          have := HF.out.1 h0
          subst this
          subst e
          rfl
        · rw [lastF_some (fun j hj => HW.out j hj hj) (by omega), ← HF.out.2 (by omega) (by omega)]
          have : decide (0 < gs.length) = true := by simp; omega
          rw [this])
      go_wp2
      refine bodyPost_ret (last_out _ _ w.heap.size (.int .i64 f.num) (.int .i64 f.wire) (.int .u64 (f.x : Int)) (.slice Af nf cf) _ _ rfl rfl rfl ?_) rfl ?_
      · exact hk6.four _ _ _ _
      · refine LR.mk HL.out ?_ ((((hblw.setCell (Nat.le_refl _) _).setCell (Nat.le_refl _) _).setCell (Nat.le_refl _) _).setCell (Nat.le_refl _) _)
        exact ((((hof.only hon (Nat.le_refl _)).setLow (by simp) _).setLow (by simp) _).setLow (by simp) _).setLow (by simp) _ |>.mono (by omega)

/-- the document's: its bytes are shared -/
def RLR (w : World) (r : Fld × Bool × Int) (e : Ending) (w' : World) : Prop :=
  ∃ A n c, e = .returned (.tuple #[.agg #[.int .i64 r.1.num, .int .i64 r.1.wire, .int .u64 (r.1.x : Int), .slice A n c], .bool r.2.1, .int .i64 r.2.2]) ∧ DV w' w'.heap.size (.slice A n c) r.1.data ∧ Below w.heap.size w w'
theorem RLR.mk {w w' : World} {r : Fld × Bool × Int} {f : Fld} {b : Bool} {er : Int} {A n c} (h : r = (f, b, er)) (ho : DV w' w'.heap.size (.slice A n c) f.data) (hb : Below w.heap.size w w') :
    RLR w r (.returned (.tuple #[.agg #[.int .i64 f.num, .int .i64 f.wire, .int .u64 (f.x : Int), .slice A n c], .bool b, .int .i64 er])) w' := by
  subst h; exact ⟨A, n, c, rfl, ho, hb⟩
def RLrel (wire : Int) (a : List Fld) (W1 : World) (i : Value) (wr : World) : Prop := ∃ k : Nat, k ≤ a.length ∧ i = .int .i64 (k : Int) ∧ Hid (∀ j (_ : j < a.length), j < k → a[j].wire = wire) ∧ wr = W1

end Go.Proofs.YtlhpmlknmgocoaaGreat

/- The contracts of Ints and Fixed, of both sides, as the statement wants them. -/
namespace Go.Proofs.YtlhpmlknmgocoaaGreat
open Go.RowKit

def errI (r : Option (List Nat)) : Int := match r with | none => 6 | some _ => 0
theorem bulkF_len : ∀ fs : List Fld, fs.length ≤ bulkF fs
  | [] => Nat.le_refl _
  | f :: fs => by have := bulkF_len fs; simp only [bulkF, List.length_cons]; omega
theorem num_at {w : World} {B : Nat} {A : Option Addr} {kd : IntKind} {l : List Nat} {n k : Nat} (h : Reads w B 1 A n (nums kd l)) (hk : k < l.length) : ∃ b off, A = some ⟨b, off, none⟩ ∧ b < B ∧ w.cell? ⟨b, off + k, none⟩ = some (.int kd (l[k] : Int)) := by
  have hn : n = l.length := by have := h.1; simp [nums] at this; omega
  obtain ⟨ad, u, h1, h2, h3, h4⟩ := Reads.at_ (k := k) h (by omega)
  obtain ⟨ad', u', h1', _, _, h4'⟩ := Reads.at_ (k := 0) h (by omega)
  rw [h1] at h1'
  obtain rfl := Option.some.inj h1'
  have h5 : (nums kd l)[k]? = some (.int kd (l[k] : Int)) := by simp [nums, hk]
  rw [h5] at h3
  obtain rfl := Option.some.inj h3
  obtain ⟨b, off, spot⟩ := ad
  have hspot : spot = none := by simpa [Addr.add] using World.cell?_spot h4'
  subst hspot
  rw [Addr.add_lit] at h4
  exact ⟨b, off, h1, h2, h4⟩
def NV (k : IntKind) (w : World) (xs : List Nat) (er : Int) (e : Ending) (w' : World) : Prop :=
  ∃ A c, e = .returned (.tuple #[.slice A xs.length c, .int .i64 er]) ∧ xs.length ≤ c ∧ c ≤ maxLen ∧ Reads w' w'.heap.size 1 A xs.length (nums k xs) ∧ Below w.heap.size w w'
theorem NR.v {k : IntKind} {t : TypeId} {w w' : World} {r : Option (List Nat)} {e : Ending} (h : NR k t w r e w') {xs : List Nat} {er : Int} (hx : r.getD [] = xs) (he : errI r = er) : NV k w xs er e w' := by
  obtain ⟨v, rfl, ho, hb⟩ := h
  subst hx he
  obtain ⟨A, n, c, rfl, rfl, h2, h3, h4⟩ := ho.form
  exact ⟨A, c, rfl, h2, h3, h4, hb⟩
section
variable {A : Option Addr} {cap : Nat} {fs : List Fld} {num : Int} {w : World} {xs : List Nat} {er : Int}
theorem ints_v (hx : (ints num fs).getD [] = xs) (he : errI (ints num fs) = er) (hm : cap ≤ maxLen) (hcap : fs.length ≤ cap) (hb : RF w w.heap.size A fs) (hbulk : bulkF fs + 1 ≤ 17592186044416) :
    Calls Tryz.prog 105 #[.slice A fs.length cap, .int .i64 num] w (NV .u64 w xs er) :=
  (ints_any A cap fs num w hm hcap hb hbulk).mono fun _ _ h => NR.v (k := .u64) (t := 60) h hx he
theorem fixd_v (hx : (gat (fixs1 num) fs).getD [] = xs) (he : errI (gat (fixs1 num) fs) = er) (hm : cap ≤ maxLen) (hcap : fs.length ≤ cap) (hb : RF w w.heap.size A fs) (hbulk : bulkF fs + 1 ≤ 17592186044416) :
    Calls Tryz.prog 106 #[.slice A fs.length cap, .int .i64 num] w (NV .u32 w xs er) :=
  (fixd_any A cap fs num w hm hcap hb hbulk).mono fun _ _ h => NR.v h hx he
end
end Go.Proofs.YtlhpmlknmgocoaaGreat

/- What PbufPicks's walk wants: contracts by values, and words for its loops that write. -/
namespace Go.Proofs.YtlhpmlknmgocoaaGreat
open Go.RowKit

theorem sameb_nn {B B' n n' cap cap' : Nat} {A A' : Option Addr} {l : List UInt8} {w : World} (ha : RB w B A l) (hb : RB w B' A' l) (hn : n = l.length) (hn' : n' = l.length) (hm : l.length ≤ maxLen) :
    Calls Tryz.prog 9 #[.slice A n cap, .slice A' n' cap'] w (SaysQ w true) := by
  subst hn hn'; exact sameb_eq ha hb hm
section
variable {A : Option Addr} {cap : Nat} {fs : List Fld} {num wire : Int} {w : World}
theorem all_at {gs : List Fld} (hs : sel num fs = gs) (hfl : fs.length + 1 ≤ 2900000000000) (hbulk : bulkF fs + 1 ≤ 17592186044416) (hb : RF w w.heap.size A fs) :
    Calls Tryz.prog 86 #[.slice A fs.length cap, .int .i64 num] w fun e w' => ∃ A' n c, e = .returned (.slice A' n c) ∧ Hid (n = gs.length) ∧ OF w' w.heap.size 108 (.slice A' n c) gs ∧ Below w.heap.size w w' := by
  refine (all_any A cap fs num w hfl hbulk hb).mono ?_
  rintro e w' ⟨v, rfl, ho, hbl⟩
  rw [hs] at ho
  obtain ⟨A', n, c, rfl, hn, -⟩ := ho.form2
  exact ⟨A', n, c, rfl, Lib.hid hn, ho, hbl⟩
theorem last_at {gs : List Fld} {f : Fld} {b : Bool} {er : Int} (hs : sel num fs = gs) (hr : lastF wire gs = (f, b, er)) (hfl : fs.length + 1 ≤ 2900000000000) (hbulk : bulkF fs + 1 ≤ 17592186044416) (hb : RF w w.heap.size A fs) :
    Calls Tryz.prog 63 #[.slice A fs.length cap, .int .i64 num, .int .i64 wire] w fun e w' => ∃ A' n c, e = .returned (.tuple #[.agg #[.int .i64 f.num, .int .i64 f.wire, .int .u64 (f.x : Int), .slice A' n c], .bool b, .int .i64 er]) ∧ Hid (n = f.data.length) ∧ OB w' w.heap.size (.slice A' n c) f.data ∧ Below w.heap.size w w' := by
  refine (last_any A cap fs num wire w hfl hbulk hb).mono ?_
  rintro e w' ⟨A', n, c, rfl, ho, hbl⟩
  rw [hs, hr] at *
  exact ⟨A', n, c, rfl, by obtain ⟨_, _, _, h1, h2, -⟩ := ho.form2; injection h1 with h1 h3 h4; rw [h3]; exact h2, ho, hbl⟩
/-- what Joined answers, as values -/
def JV (w : World) (l : List UInt8) (b : Bool) (er : Int) (e : Ending) (w' : World) : Prop :=
  ∃ A n c, e = .returned (.tuple #[.slice A n c, .bool b, .int .i64 er]) ∧ Hid (n = l.length) ∧ OB w' w.heap.size (.slice A n c) l ∧ Below w.heap.size w w'
def jnb (a : List Fld) : Bool := match jn a with | none => false | some _ => decide (0 < a.length)
def jne (a : List Fld) : Int := match jn a with | none => 6 | some _ => 0
theorem JR.v {gs : List Fld} {w' : World} {e : Ending} (h : JR w gs e w') : JV w ((jn gs).getD []) (jnb gs) (jne gs) e w' := by
  obtain ⟨v, b, er, rfl, ho, hbl, rfl, rfl⟩ := h
  obtain ⟨A, n, c, rfl, hn, -⟩ := ho.form2
  exact ⟨A, n, c, rfl, hn, ho, hbl⟩
theorem joined_at {gs : List Fld} {l : List UInt8} {b : Bool} {er : Int} (hs : sel num fs = gs) (hl : (jn gs).getD [] = l) (hb' : jnb gs = b) (he : jne gs = er) (hfl : fs.length + 1 ≤ 2900000000000) (hbulk : bulkF fs + 1 ≤ 17592186044416) (hb : RF w w.heap.size A fs) :
    Calls Tryz.prog 64 #[.slice A fs.length cap, .int .i64 num] w (JV w l b er) := by
  subst hs hl hb' he
  exact (joined_any A cap fs num w hfl hbulk hb).mono fun _ _ h => h.v
end
theorem jn_len : ∀ {a : List Fld} {l : List UInt8}, jn a = some l → l.length ≤ bulkF a
  | [], l, h => by simp [jn] at h; subst h; simp
  | f :: r, l, h => by
    unfold jn at h
    split at h
    · cases hj : jn r with
      | none => rw [hj] at h; simp at h
      | some l' =>
        rw [hj] at h
        simp at h
        subst h
        have := jn_len hj
        simp only [bulkF, List.length_append]; omega
    · cases h
theorem jn_len' (a : List Fld) : ((jn a).getD []).length ≤ bulkF a := by
  cases h : jn a with
  | none => simp
  | some l => simpa using jn_len h
theorem lastF_len {wire : Int} {a : List Fld} {f : Fld} {b : Bool} {er : Int} (h : lastF wire a = (f, b, er)) : f.data.length ≤ bulkF a := by
  unfold lastF at h
  split at h
  · split at h
    · injection h with h1 h2; subst h1; simp [zf]
    · rename_i g hg
      injection h with h1 h2
      subst h1
      have hm := List.mem_of_getLast? hg
      obtain ⟨i, hi, e⟩ := List.getElem_of_mem hm
      have := data_bulk hi
      rw [e] at this
      omega
  · injection h with h1 h2; subst h1; simp [zf]
/-- the fields that come from All, to be written over -/
theorem LM.maybe {lo hi n c : Nat} {A : Option Addr} {W0 : World} {fs : List Fld} {w1 : World} (h1 : OF w1 lo 108 (.slice A n c) fs) (hz : w1.heap.size = hi) (hb : Below hi w1 W0) :
    ∃ g ds, (0 < fs.length → A = some ⟨g, 0, none⟩ ∧ LS lo hi g fs ds ∧ LM lo hi g W0 fs ds 0 W0) := by
  by_cases hn : 0 < fs.length
  · obtain ⟨g, cap, ds, e, h2, h3⟩ := LM.start hn h1 hz hb
    injection e with e1 e2 e3
    exact ⟨g, ds, fun _ => ⟨e1, h2, h3⟩⟩
  · exact ⟨0, [], fun h => absurd h hn⟩
theorem LM.skip {lo hi g i : Nat} {W0 w : World} {fs : List Fld} {ds : List Value} (h : LM lo hi g W0 fs ds i w) : LM lo hi g W0 fs ds (i + 1) w :=
  ⟨h.only, by obtain ⟨cur, h1, h2, h3⟩ := h.row; exact ⟨cur, h1, h2, fun j hj hij => h3 j hj (by omega)⟩, fun j hj hj' hij => h.dat j hj hj' (by omega)⟩
/-- a row of bytes of the call's own, to be written over -/
def CM (lo hi : Nat) (W0 : World) (v : Value) (n : Nat) (w : World) : Prop := Only lo hi W0 w ∧ ∃ l : List UInt8, l.length = n ∧ OB w lo v l
theorem CM.set {lo hi g n c : Nat} {W0 w : World} (h : CM lo hi W0 (.slice (some ⟨g, 0, none⟩) n c) n w) (hg : lo ≤ g ∧ g < hi) (k : Nat) (x : UInt8) :
    CM lo hi W0 (.slice (some ⟨g, 0, none⟩) n c) n (w.setCell ⟨g, k, none⟩ (.int .u8 (x.toNat : Int))) := by
  obtain ⟨h1, l, h2, h3⟩ := h
  exact ⟨h1.setCell ⟨hg.1, .inl hg.2⟩ _, l.set k x, by rw [List.length_set]; exact h2, h3.set k x⟩
theorem CM.drew {lo hi n : Nat} {W0 w : World} {v : Value} (h : CM lo hi W0 v n w) : CM lo hi W0 v n w.drew := ⟨h.1.drew, h.2⟩
theorem CM.drewN {lo hi n : Nat} {W0 w : World} {v : Value} (h : CM lo hi W0 v n w) (k : Nat) : CM lo hi W0 v n (w.drewN k) := ⟨h.1.drewN k, h.2⟩
theorem OB.off {lo hi base : Nat} {W0 w : World} {v : Value} {l : List UInt8} (ho : OB W0 base v l) (h : Only lo hi W0 w) (hb : ∀ k, v.ownBlock = some k → k < lo ∨ hi ≤ k) : OB w base v l := by
  refine ⟨ho.1, ?_⟩
  rcases ho.2 with ho2 | ⟨g, cap, cur, rfl, h2, h3, h4⟩
  · exact .inl ho2
  · refine .inr ⟨g, cap, cur, rfl, h2, ?_, h4⟩
    rw [h.block g (Array.getElem?_eq_some_iff.1 h3).1 (hb g rfl)]
    exact h3
theorem OB.rb {w : World} {base n c : Nat} {A : Option Addr} {l : List UInt8} (h : OB w base (.slice A n c) l) : RB w w.heap.size A l := by
  obtain ⟨A', c', e, -, -, hr⟩ := h.form
  injection e with e1 e2 e3
  rw [e1]; exact hr
theorem OF.rf {w : World} {base n c : Nat} {e : TypeId} {A : Option Addr} {fs : List Fld} (h : OF w base e (.slice A n c) fs) : RF w w.heap.size A fs := by
  obtain ⟨A', c', e, -, -, hr⟩ := h.form
  injection e with e1 e2 e3
  rw [e1]; exact hr
end Go.Proofs.YtlhpmlknmgocoaaGreat
