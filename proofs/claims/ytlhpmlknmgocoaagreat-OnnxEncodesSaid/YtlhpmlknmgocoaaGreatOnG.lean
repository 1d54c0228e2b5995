/- Bytes laid into a tensor. -/
import Derived.Test.YtlhpmlknmgocoaaGreatOnF
namespace Go.Proofs.YtlhpmlknmgocoaaGreat
set_option linter.unusedSimpArgs false
set_option linter.unusedVariables false
open Go.RowKit

def numAt (wd : Nat) (b : List UInt8) (i : Nat) : Nat := lit8 ((b.drop (wd * i)).take wd)
theorem cutN_range (wd : Nat) : ∀ (n : Nat) (b : List UInt8), cutN wd n b = (List.range n).map (numAt wd b)
  | 0, _ => rfl
  | n + 1, b => by
    rw [List.range_succ_eq_map, cutN, cutN_range wd n (b.drop wd)]
    simp only [List.map_cons, List.map_map]
    refine List.cons_eq_cons.2 ⟨by simp [numAt], ?_⟩
    refine List.map_congr_left fun i _ => ?_
    simp only [numAt, Function.comp, List.drop_drop]
    rw [show wd + wd * i = wd * (i + 1) by rw [Nat.mul_add, Nat.mul_one, Nat.add_comm]]
theorem numAt_lt (b : List UInt8) (wd i : Nat) : numAt wd b i < 256 ^ wd := by
  refine Nat.lt_of_lt_of_le (lit8_lt _) (Nat.pow_le_pow_right (by omega) (List.length_take_le _ _))
theorem range_snoc {α : Type} (F : Nat → α) (k : Nat) : (List.range (k + 1)).map F = (List.range k).map F ++ [F k] := by simp [List.range_succ]
theorem olittle_n {B : Nat} {A : Option Addr} {cap n : Nat} {l : List UInt8} {w : World} (hn : Hid (l.length = n)) (h8 : n ≤ 8) (hb : RB w B A l) :
    Calls Tryz.prog 108 #[.slice A n cap] w fun e w' => e = .returned (.int .u64 (lit8 l : Int)) ∧ w' = w := by
  have := hn.out
  subst this
  exact olittle_any B A cap l w h8 hb
theorem olittle_at {B : Nat} {A : Option Addr} {cap n q wd i : Nat} {l : List UInt8} {w : World} (hq : q = wd * i) (hn : Hid (n = wd)) (h0 : 0 < wd) (h8 : wd ≤ 8) (hl : q + wd ≤ l.length) (hc : l.length ≤ cap) (hb : RB w B A l) :
    Calls Tryz.prog 108 #[.slice (Option.map (fun x => x.add q) A) n (cap - q)] w fun e w' => e = .returned (.int .u64 (numAt wd l i : Int)) ∧ w' = w := by
  subst hq
  rw [hn.out]
  refine olittle_n (B := B) (l := (l.drop (wd * i)).take wd) (Lib.hid (by simp; omega)) h8 ?_
  have h9 := (hb.cutA (k := wd * i) (by omega) hc).take wd
  unfold cutA at h9
  rwa [if_neg (by omega)] at h9
theorem Held.rb {w : World} {S : Nat → Prop} {A : Option Addr} {n c : Nat} {l : List UInt8} (h : Held w S (datB l) (.slice A n c)) : n = l.length ∧ n ≤ c ∧ c ≤ maxLen ∧ RB w w.heap.size A l := by
  obtain ⟨A', c', e, h1, h2, h3⟩ := h.dv
  injection e with e1 e2 e3
  subst e1 e2 e3
  exact ⟨rfl, h1, h2, h3⟩
theorem HRow.ne_blk {w : World} {base n m : Nat} {e : TypeId} {v : Value} {ds : List Dat} {g : Nat} {t : TypeId} {cs : Array Value} (h : HRow w base e n v m ds) (hg : Blk w g t cs) (hne : e ≠ t) : some g ≠ v.ownBlock := by
  obtain ⟨us, -, h2, -⟩ := h
  exact (own_blk_ne h2 hg hne).symm
theorem blk6 {w : World} {g : Nat} {t : TypeId} {c0 c1 c2 c3 c4 c5 : Value} (h : Blk w g t #[c0, c1, c2, c3, c4, c5]) :
    w.cell? ⟨g, 0, none⟩ = some c0 ∧ w.cell? ⟨g, 1, none⟩ = some c1 ∧ w.cell? ⟨g, 2, none⟩ = some c2 ∧ w.cell? ⟨g, 3, none⟩ = some c3 ∧ w.cell? ⟨g, 4, none⟩ = some c4 ∧ w.cell? ⟨g, 5, none⟩ = some c5 ∧
    w.frozen? ⟨g, 0, none⟩ = false ∧ w.frozen? ⟨g, 1, none⟩ = false ∧ w.frozen? ⟨g, 2, none⟩ = false ∧ w.frozen? ⟨g, 3, none⟩ = false ∧ w.frozen? ⟨g, 4, none⟩ = false ∧ w.frozen? ⟨g, 5, none⟩ = false ∧ g < w.heap.size :=
  ⟨h.cell 0, h.cell 1, h.cell 2, h.cell 3, h.cell 4, h.cell 5, h.frozen 0, h.frozen 1, h.frozen 2, h.frozen 3, h.frozen 4, h.frozen 5, h.lt⟩
def RawR (w : World) (p : Nat) (nm : Value) (ty : Int) (dv : Value) (r : Tn × Bool) (e : Ending) (w' : World) : Prop :=
  ∃ (t : Tn) (A1 : Option Addr) (n1 c1 : Nat) (A2 : Option Addr) (n2 c2 : Nat) (A3 : Option Addr) (n3 c3 : Nat), e = .returned (.bool r.2) ∧ (r.2 = true → t = r.1) ∧
    Blk w' p 57 #[nm, .int .i64 ty, dv, .slice A1 n1 c1, .slice A2 n2 c2, .slice A3 n3 c3] ∧
    Held w' (Inb w.heap.size w'.heap.size) (datF t.f) (.slice A1 n1 c1) ∧ Held w' (Inb w.heap.size w'.heap.size) (datI t.i) (.slice A2 n2 c2) ∧ Held w' (Inb w.heap.size w'.heap.size) (datO t.b) (.slice A3 n3 c3) ∧ w.grownBy w' (some p)
theorem RawR.same {w : World} {p : Nat} {nm dv : Value} {ty : Int} {r : Tn × Bool} {b : Bool} (hr : r.2 = b) (hp : Blk w p 57 #[nm, .int .i64 ty, dv, .slice none 0 0, .slice none 0 0, .slice none 0 0]) (ht : b = true → r.1.f = [] ∧ r.1.i = [] ∧ r.1.b = []) :
    RawR w p nm ty dv r (.returned (.bool b)) w := by
  obtain ⟨⟨a1, a2, a3, a4, a5⟩, a6⟩ := r
  dsimp only at hr ht
  subst hr
  refine ⟨⟨a1, a2, [], [], []⟩, none, 0, 0, none, 0, 0, none, 0, 0, rfl, fun h => ?_, hp, Held.nil _ _ _ _ _ (by unfold maxLen; omega), Held.nil _ _ _ _ _ (by unfold maxLen; omega), Held.nil _ _ _ _ _ (by unfold maxLen; omega), grown_past (Below.refl _ _) _⟩
  obtain ⟨h1, h2, h3⟩ := ht h
  rw [h1, h2, h3]

def RFrel (l : List UInt8) (n p : Nat) (nm dv : Value) (w : World) (i : Value) (wr : World) : Prop :=
  ∃ (k : Nat) (A1 : Option Addr) (c1 : Nat), k ≤ n ∧ i = .int .i64 (k : Int) ∧ Blk wr p 57 #[nm, .int .i64 1, dv, .slice A1 k c1, .slice none 0 0, .slice none 0 0] ∧ HRow wr w.heap.size 96 1 (.slice A1 k c1) k ((List.range k).map fun i => Dat.leaf (.int .u32 ((UInt32.ofNat (numAt 4 l i)).toNat : Int))) ∧ w.grownBy wr (some p)
theorem info_RF : (Tryz.prog.info? 96).map (fun i => (i.zero, i.size, i.bytes)) = some (some (.int .u32 0), 1, 4) := by kernel_rfl
set_option maxRecDepth 100000 in
set_option maxHeartbeats 1600000 in
theorem rawF_any {S : Nat → Prop} {v nm dv : Value} {w : World} {p n : Nat} {dims : List Int64} {l : List UInt8} (hp : Blk w p 57 #[nm, .int .i64 1, dv, .slice none 0 0, .slice none 0 0, .slice none 0 0]) (hn : n ≤ 4096) (hv : Held w S (datB l) v) (hS : ¬ S p) (hl : l.length ≤ 4194304) :
    Calls Tryz.prog 99 #[.pointer (some ⟨p, 1, none⟩), .int .i64 n, v] w (RawR w p nm 1 dv (rawP 1 dims n l)) := by
  obtain ⟨A, c, rfl, h2, h3, h4⟩ := hv.dv
  have HW := Lib.hid (width_any 1 w)
  have HP := Lib.hid hp
  have HV := Lib.hid hv
  have hpl := hp.lt
  have k1 := hp.cell 1
  have e0 : Hid (l.length ≠ n * 4 → (rawP 1 dims n l).2 = false) := Lib.hid fun h => by unfold rawP; rw [if_pos (by simpa [widthP] using h)]
  have e1 : Hid (l.length = n * 4 → rawP 1 dims n l = (⟨1, dims, ((List.range n).map (numAt 4 l)).map UInt32.ofNat, [], []⟩, true)) := Lib.hid fun h => by
    unfold rawP
    rw [if_neg (by simpa [widthP] using h)]
    simp [cutN_range]
  generalize hlen : l.length = m at *
  have HLEN := Lib.hid hlen
  clear hp hv hlen
  by_cases hm : m = n * 4
  case neg =>
    have hm1 : ((m : Int) != (n : Int) * 4) = true := by simp; omega
    go_enter Tryz.func99, Tryz.ntmps99
    go_wp2_with fail
    refine HW.out.mono ?_
    rintro e w' ⟨rfl, hw'⟩
    subst w'
    go_wp2
    go_ret
    exact RawR.same (e0.out hm) HP.out (fun h => by cases h)
  case pos =>
    have hm1 : ((m : Int) != (n : Int) * 4) = false := by simp; omega
    have HM := Lib.hid hm
    clear hm
    go_enter Tryz.func99, Tryz.ntmps99
    go_wp2_with fail
    refine HW.out.mono ?_
    rintro e w' ⟨rfl, hw'⟩
    subst w'
    go_wp2
    go_loopw [22] (fun i wr => RFrel l n p nm dv w i wr) (fun i _ => n - (intOf i).toNat)
    case atStart => exact ⟨0, none, 0, Nat.zero_le _, rfl, HP.out, HRow.nil _ _ _ _, grown_past (Below.refl _ _) _⟩
    case round =>
      obtain ⟨k, A1, c1, hk, rfl, hblk, hrow, hg⟩ := hrel
      have hz := hg.size
      by_cases hlt : k < n
      · obtain ⟨q, hq⟩ : ∃ q, q = 4 * k := ⟨_, rfl⟩
        have hmul : (k : Int) * 4 = (q : Int) := by rw [hq]; simp; omega
        have hq2 : q + 4 ≤ m := by have := HM.out; omega
        obtain ⟨hm0, -, -, hrb⟩ := Held.rb (HV.out.grown hg (fun b hb e => hS (by injection e with e; exact e ▸ hb)))
        have HC := Lib.hid (olittle_at (cap := c) (wd := 4) (n := 4) hq (Lib.hid rfl) (by decide) (by decide) (by omega) (by omega) hrb)
        have HT := Lib.hid (range_snoc (fun i => Dat.leaf (.int .u32 ((UInt32.ofNat (numAt 4 l i)).toNat : Int))) k)
        have hx := numAt_lt l 4 k
        have HXV := Lib.hid (show (UInt32.ofNat (numAt 4 l k)).toNat = numAt 4 l k by simp; omega)
        clear hq hm0 hrb
        generalize numAt 4 l k = x at *
        obtain ⟨b0, b1, b2, b3, b4, b5, f0, f1, f2, f3, f4, f5, hpl2⟩ := blk6 hblk
        have HBK := Lib.hid hblk
        have HRR := Lib.hid hrow
        have HNE := Lib.hid (hrow.ne_blk hblk (by decide))
        clear hblk hrow
        go_wp2_with fail
        with_reducible refine HC.out.mono ?_
        rintro e w' ⟨rfl, hw'⟩
        subst w'
        go_wp2_with (at_builtin
                     go_must (refine append_dat 51 96 (.int .u32 0) 1 4 (by kernel_rfl) info_RF rfl (by decide) rfl _ _ rfl HRR.out rfl rfl rfl [.leaf (.int .u32 (x : Int))] [.int .u32 (x : Int)] rfl rfl (by simp [Value.oneCell']) (HL.get (.cons (.leaf _) .nil)) (by omega) (by unfold maxLen; omega) (by omega) ?_; intro v2 w3 ho2 hg2 ha2; (obtain ⟨A2, c2, rfl, -⟩ := ho2.form); have hblk3 := HBK.out.grown hg2 HNE.out; (obtain ⟨d0, d1, d2, d3, d4, d5, e0', e1', e2', e3', e4', e5', hpl3⟩ := blk6 hblk3)))
        go_roundw
        case rel => exact ⟨k + 1, A2, c2, by omega, by go_num, hblk3.set_ 3 _, by
          rw [HT.out]
          rw [HXV.out]
          exact ho2.grown (grown_set _ p 3 _) (fun q hq => by injection hq with hq; omega), grown_trans (grown_own hg hg2 (fun q hq => (HRR.out.lt q hq).1)) (grown_set _ _ _ _)⟩
        case measure => simp [intOf]; omega
      · have hke : k = n := by omega
        subst hke
        have hd : datF (((List.range k).map (numAt 4 l)).map UInt32.ofNat) = .row 1 ((List.range k).map fun i => Dat.leaf (.int .u32 ((UInt32.ofNat (numAt 4 l i)).toNat : Int))) := by simp [datF, datI, datO, lfI, Function.comp_def]
        have h9 := hrow.held (by omega)
        rw [← hd] at h9
        have H9 := Lib.hid h9
        have HBK := Lib.hid hblk
        clear h9 hd hrow hblk
        go_wp2
        go_ret
        rw [e1.out HM.out]
        exact ⟨_, A1, k, c1, none, 0, 0, none, 0, 0, rfl, fun _ => rfl, HBK.out, H9.out, Held.nil _ _ _ _ _ (by unfold maxLen; omega), Held.nil _ _ _ _ _ (by unfold maxLen; omega), hg⟩

def RIrel (l : List UInt8) (n p : Nat) (nm dv : Value) (w : World) (i : Value) (wr : World) : Prop :=
  ∃ (k : Nat) (A1 : Option Addr) (c1 : Nat), k ≤ n ∧ i = .int .i64 (k : Int) ∧ Blk wr p 57 #[nm, .int .i64 7, dv, .slice none 0 0, .slice A1 k c1, .slice none 0 0] ∧ HRow wr w.heap.size 2 1 (.slice A1 k c1) k ((List.range k).map fun i => Dat.leaf (.int .i64 (i64 (numAt 8 l i)).toInt)) ∧ w.grownBy wr (some p)
theorem info_RI : (Tryz.prog.info? 2).map (fun i => (i.zero, i.size, i.bytes)) = some (some (.int .i64 0), 1, 8) := by kernel_rfl
set_option maxRecDepth 100000 in
set_option maxHeartbeats 1600000 in
theorem rawI_any {S : Nat → Prop} {v nm dv : Value} {w : World} {p n : Nat} {dims : List Int64} {l : List UInt8} (hp : Blk w p 57 #[nm, .int .i64 7, dv, .slice none 0 0, .slice none 0 0, .slice none 0 0]) (hn : n ≤ 4096) (hv : Held w S (datB l) v) (hS : ¬ S p) (hl : l.length ≤ 4194304) :
    Calls Tryz.prog 99 #[.pointer (some ⟨p, 1, none⟩), .int .i64 n, v] w (RawR w p nm 7 dv (rawP 7 dims n l)) := by
  obtain ⟨A, c, rfl, h2, h3, h4⟩ := hv.dv
  have HW := Lib.hid (width_any 7 w)
  have HP := Lib.hid hp
  have HV := Lib.hid hv
  have hpl := hp.lt
  have k1 := hp.cell 1
  have e0 : Hid (l.length ≠ n * 8 → (rawP 7 dims n l).2 = false) := Lib.hid fun h => by unfold rawP; rw [if_pos (by simpa [widthP] using h)]
  have e1 : Hid (l.length = n * 8 → rawP 7 dims n l = (⟨7, dims, [], ((List.range n).map (numAt 8 l)).map i64, []⟩, true)) := Lib.hid fun h => by
    unfold rawP
    rw [if_neg (by simpa [widthP] using h)]
    simp [cutN_range]
  generalize hlen : l.length = m at *
  have HLEN := Lib.hid hlen
  clear hp hv hlen
  by_cases hm : m = n * 8
  case neg =>
    have hm1 : ((m : Int) != (n : Int) * 8) = true := by simp; omega
    go_enter Tryz.func99, Tryz.ntmps99
    go_wp2_with fail
    refine HW.out.mono ?_
    rintro e w' ⟨rfl, hw'⟩
    subst w'
    go_wp2
    go_ret
    exact RawR.same (e0.out hm) HP.out (fun h => by cases h)
  case pos =>
    have hm1 : ((m : Int) != (n : Int) * 8) = false := by simp; omega
    have HM := Lib.hid hm
    clear hm
    go_enter Tryz.func99, Tryz.ntmps99
    go_wp2_with fail
    refine HW.out.mono ?_
    rintro e w' ⟨rfl, hw'⟩
    subst w'
    go_wp2
    go_loopw [22] (fun i wr => RIrel l n p nm dv w i wr) (fun i _ => n - (intOf i).toNat)
    case atStart => exact ⟨0, none, 0, Nat.zero_le _, rfl, HP.out, HRow.nil _ _ _ _, grown_past (Below.refl _ _) _⟩
    case round =>
      obtain ⟨k, A1, c1, hk, rfl, hblk, hrow, hg⟩ := hrel
      have hz := hg.size
      by_cases hlt : k < n
      · obtain ⟨q, hq⟩ : ∃ q, q = 8 * k := ⟨_, rfl⟩
        have hmul : (k : Int) * 8 = (q : Int) := by rw [hq]; simp; omega
        have hq2 : q + 8 ≤ m := by have := HM.out; omega
        obtain ⟨hm0, -, -, hrb⟩ := Held.rb (HV.out.grown hg (fun b hb e => hS (by injection e with e; exact e ▸ hb)))
        have HC := Lib.hid (olittle_at (cap := c) (wd := 8) (n := 8) hq (Lib.hid rfl) (by decide) (by decide) (by omega) (by omega) hrb)
        have HT := Lib.hid (range_snoc (fun i => Dat.leaf (.int .i64 (i64 (numAt 8 l i)).toInt)) k)
        have hx := numAt_lt l 8 k
        have HXV := Lib.hid (show (i64 (numAt 8 l k)).toInt = wrap64 (numAt 8 l k : Int) from (i64_wrap _).symm)
        clear hq hm0 hrb
        generalize numAt 8 l k = x at *
        obtain ⟨b0, b1, b2, b3, b4, b5, f0, f1, f2, f3, f4, f5, hpl2⟩ := blk6 hblk
        have HBK := Lib.hid hblk
        have HRR := Lib.hid hrow
        have HNE := Lib.hid (hrow.ne_blk hblk (by decide))
        clear hblk hrow
        go_wp2_with fail
        with_reducible refine HC.out.mono ?_
        rintro e w' ⟨rfl, hw'⟩
        subst w'
        go_wp2_with (at_builtin
                     go_must (refine append_dat 52 2 (.int .i64 0) 1 8 (by kernel_rfl) info_RI rfl (by decide) rfl _ _ rfl HRR.out rfl rfl rfl [.leaf (.int .i64 (wrap64 (x : Int)))] [.int .i64 (wrap64 (x : Int))] rfl rfl (by simp [Value.oneCell']) (HL.get (.cons (.leaf _) .nil)) (by omega) (by unfold maxLen; omega) (by omega) ?_; intro v2 w3 ho2 hg2 ha2; (obtain ⟨A2, c2, rfl, -⟩ := ho2.form); have hblk3 := HBK.out.grown hg2 HNE.out; (obtain ⟨d0, d1, d2, d3, d4, d5, e0', e1', e2', e3', e4', e5', hpl3⟩ := blk6 hblk3)))
        go_roundw
        case rel => exact ⟨k + 1, A2, c2, by omega, by go_num, hblk3.set_ 4 _, by
          rw [HT.out]
          rw [HXV.out]
          exact ho2.grown (grown_set _ p 4 _) (fun q hq => by injection hq with hq; omega), grown_trans (grown_own hg hg2 (fun q hq => (HRR.out.lt q hq).1)) (grown_set _ _ _ _)⟩
        case measure => simp [intOf]; omega
      · have hke : k = n := by omega
        subst hke
        have hd : datI (((List.range k).map (numAt 8 l)).map i64) = .row 1 ((List.range k).map fun i => Dat.leaf (.int .i64 (i64 (numAt 8 l i)).toInt)) := by simp [datF, datI, datO, lfI, Function.comp_def]
        have h9 := hrow.held (by omega)
        rw [← hd] at h9
        have H9 := Lib.hid h9
        have HBK := Lib.hid hblk
        clear h9 hd hrow hblk
        go_wp2
        go_ret
        rw [e1.out HM.out]
        exact ⟨_, none, 0, 0, A1, k, c1, none, 0, 0, rfl, fun _ => rfl, HBK.out, Held.nil _ _ _ _ _ (by unfold maxLen; omega), H9.out, Held.nil _ _ _ _ _ (by unfold maxLen; omega), hg⟩

def RBrel (l : List UInt8) (n p : Nat) (nm dv : Value) (w : World) (i : Value) (wr : World) : Prop :=
  ∃ (k : Nat) (A1 : Option Addr) (c1 : Nat), k ≤ n ∧ i = .int .i64 (k : Int) ∧ Blk wr p 57 #[nm, .int .i64 9, dv, .slice none 0 0, .slice none 0 0, .slice A1 k c1] ∧ HRow wr w.heap.size 4 1 (.slice A1 k c1) k ((List.range k).map fun i => Dat.leaf (.bool (decide ((numAt 1 l i) = 1)))) ∧ w.grownBy wr (some p) ∧ Hid (∀ i, i < k → numAt 1 l i ≤ 1)
theorem info_RB : (Tryz.prog.info? 4).map (fun i => (i.zero, i.size, i.bytes)) = some (some (.bool false), 1, 1) := by kernel_rfl
set_option maxRecDepth 100000 in
set_option maxHeartbeats 1600000 in
theorem rawB_any {S : Nat → Prop} {v nm dv : Value} {w : World} {p n : Nat} {dims : List Int64} {l : List UInt8} (hp : Blk w p 57 #[nm, .int .i64 9, dv, .slice none 0 0, .slice none 0 0, .slice none 0 0]) (hn : n ≤ 4096) (hv : Held w S (datB l) v) (hS : ¬ S p) (hl : l.length ≤ 4194304) :
    Calls Tryz.prog 99 #[.pointer (some ⟨p, 1, none⟩), .int .i64 n, v] w (RawR w p nm 9 dv (rawP 9 dims n l)) := by
  obtain ⟨A, c, rfl, h2, h3, h4⟩ := hv.dv
  have HW := Lib.hid (width_any 9 w)
  have HP := Lib.hid hp
  have HV := Lib.hid hv
  have hpl := hp.lt
  have k1 := hp.cell 1
  have e0 : Hid (l.length ≠ n * 1 → (rawP 9 dims n l).2 = false) := Lib.hid fun h => by unfold rawP; rw [if_pos (by simpa [widthP] using h)]
  have e1 : Hid (l.length = n * 1 → rawP 9 dims n l = (⟨9, dims, [], [], ((List.range n).map (numAt 1 l)).map fun x => decide (x = 1)⟩, ((List.range n).map (numAt 1 l)).all fun x => decide (x ≤ 1))) := Lib.hid fun h => by
    unfold rawP
    rw [if_neg (by simpa [widthP] using h)]
    simp [cutN_range]
  generalize hlen : l.length = m at *
  have HLEN := Lib.hid hlen
  clear hp hv hlen
  by_cases hm : m = n * 1
  case neg =>
    have hm1 : ((m : Int) != (n : Int)) = true := by simp; omega
    go_enter Tryz.func99, Tryz.ntmps99
    go_wp2_with fail
    refine HW.out.mono ?_
    rintro e w' ⟨rfl, hw'⟩
    subst w'
    go_wp2
    go_ret
    exact RawR.same (e0.out hm) HP.out (fun h => by cases h)
  case pos =>
    have hm1 : ((m : Int) != (n : Int)) = false := by simp; omega
    have HM := Lib.hid hm
    clear hm
    go_enter Tryz.func99, Tryz.ntmps99
    go_wp2_with fail
    refine HW.out.mono ?_
    rintro e w' ⟨rfl, hw'⟩
    subst w'
    go_wp2
    go_loopw [22] (fun i wr => RBrel l n p nm dv w i wr) (fun i _ => n - (intOf i).toNat)
    case atStart => exact ⟨0, none, 0, Nat.zero_le _, rfl, HP.out, HRow.nil _ _ _ _, grown_past (Below.refl _ _) _, Lib.hid (fun i h => by omega)⟩
    case round =>
      obtain ⟨k, A1, c1, hk, rfl, hblk, hrow, hg, hones⟩ := hrel
      have hz := hg.size
      by_cases hlt : k < n
      · have hq : k = 1 * k := by omega
        have hq2 : k + 1 ≤ m := by have := HM.out; omega
        obtain ⟨hm0, -, -, hrb⟩ := Held.rb (HV.out.grown hg (fun b hb e => hS (by injection e with e; exact e ▸ hb)))
        have HC := Lib.hid (olittle_at (cap := c) (wd := 1) (n := 1) hq (Lib.hid rfl) (by decide) (by decide) (by omega) (by omega) hrb)
        have HT := Lib.hid (range_snoc (fun i => Dat.leaf (.bool (decide ((numAt 1 l i) = 1)))) k)
        have hx := numAt_lt l 1 k
        clear hq hm0 hrb
        obtain ⟨x, hxx⟩ : ∃ x, numAt 1 l k = x := ⟨_, rfl⟩
        rw [hxx] at hx HC
        have HXX := Lib.hid hxx
        clear hxx
        obtain ⟨b0, b1, b2, b3, b4, b5, f0, f1, f2, f3, f4, f5, hpl2⟩ := blk6 hblk
        have HBK := Lib.hid hblk
        have HRR := Lib.hid hrow
        have HNE := Lib.hid (hrow.ne_blk hblk (by decide))
        clear hblk hrow
        go_wp2_with fail
        with_reducible refine HC.out.mono ?_
        rintro e w' ⟨rfl, hw'⟩
        subst w'
        by_cases hx1 : 1 < x
        · have hd : datO ((List.range k).map fun i => decide (numAt 1 l i = 1)) = .row 1 ((List.range k).map fun i => Dat.leaf (.bool (decide (numAt 1 l i = 1)))) := by simp [datO, Function.comp_def]
          have h9 := HRR.out.held (by omega)
          rw [← hd] at h9
          have H9 := Lib.hid h9
          have HF9 : Hid ((rawP 9 dims n l).2 = false) := Lib.hid (by
            rw [e1.out HM.out]
            refine Bool.eq_false_iff.2 fun h => ?_
            have h1 := List.all_eq_true.1 h _ (List.mem_map.2 ⟨k, List.mem_range.2 hlt, rfl⟩)
            have h2 := HXX.out
            simp at h1
            omega)
          clear h9 hd
          go_wp2
          go_ret
          generalize rawP 9 dims n l = r at *
          obtain ⟨t9, b9⟩ := r
          obtain rfl : b9 = false := HF9.out
          exact ⟨⟨9, dims, [], [], (List.range k).map fun i => decide (numAt 1 l i = 1)⟩, none, 0, 0, none, 0, 0, A1, k, c1, rfl, (fun h => by cases h), HBK.out, Held.nil _ _ _ _ _ (by unfold maxLen; omega), Held.nil _ _ _ _ _ (by unfold maxLen; omega), H9.out, hg⟩
        · have hx01 : x = 0 ∨ x = 1 := by omega
          rcases hx01 with rfl | rfl
          · have HXV : Hid (decide (numAt 1 l k = 1) = false) := Lib.hid (by rw [HXX.out]; rfl)
            go_wp2_with (at_builtin
                         go_must (refine append_dat 53 4 (.bool false) 1 1 (by kernel_rfl) info_RB rfl (by decide) rfl _ _ rfl HRR.out rfl rfl rfl [.leaf (.bool false)] [.bool false] rfl rfl (by simp [Value.oneCell']) (HL.get (.cons (.leaf _) .nil)) (by omega) (by unfold maxLen; omega) (by omega) ?_; intro v2 w3 ho2 hg2 ha2; (obtain ⟨A2, c2, rfl, -⟩ := ho2.form); have hblk3 := HBK.out.grown hg2 HNE.out; (obtain ⟨d0, d1, d2, d3, d4, d5, e0', e1', e2', e3', e4', e5', hpl3⟩ := blk6 hblk3)))
            go_roundw
            case rel => exact ⟨k + 1, A2, c2, by omega, by go_num, hblk3.set_ 5 _, by
              rw [HT.out]
              rw [HXV.out]
              exact ho2.grown (grown_set _ p 5 _) (fun q hq => by injection hq with hq; omega), grown_trans (grown_own hg hg2 (fun q hq => (HRR.out.lt q hq).1)) (grown_set _ _ _ _), Lib.hid (fun i hi => by
              rcases Nat.lt_succ_iff_lt_or_eq.1 hi with h | h
              · exact hones.out i h
              · rw [h, HXX.out]; decide)⟩
            case measure => simp [intOf]; omega
          · have HXV : Hid (decide (numAt 1 l k = 1) = true) := Lib.hid (by rw [HXX.out]; rfl)
            go_wp2_with (at_builtin
                         go_must (refine append_dat 53 4 (.bool false) 1 1 (by kernel_rfl) info_RB rfl (by decide) rfl _ _ rfl HRR.out rfl rfl rfl [.leaf (.bool true)] [.bool true] rfl rfl (by simp [Value.oneCell']) (HL.get (.cons (.leaf _) .nil)) (by omega) (by unfold maxLen; omega) (by omega) ?_; intro v2 w3 ho2 hg2 ha2; (obtain ⟨A2, c2, rfl, -⟩ := ho2.form); have hblk3 := HBK.out.grown hg2 HNE.out; (obtain ⟨d0, d1, d2, d3, d4, d5, e0', e1', e2', e3', e4', e5', hpl3⟩ := blk6 hblk3)))
            go_roundw
            case rel => exact ⟨k + 1, A2, c2, by omega, by go_num, hblk3.set_ 5 _, by
              rw [HT.out]
              rw [HXV.out]
              exact ho2.grown (grown_set _ p 5 _) (fun q hq => by injection hq with hq; omega), grown_trans (grown_own hg hg2 (fun q hq => (HRR.out.lt q hq).1)) (grown_set _ _ _ _), Lib.hid (fun i hi => by
              rcases Nat.lt_succ_iff_lt_or_eq.1 hi with h | h
              · exact hones.out i h
              · rw [h, HXX.out]; decide)⟩
            case measure => simp [intOf]; omega
      · have hke : k = n := by omega
        subst hke
        have hd : datO (((List.range k).map (numAt 1 l)).map fun x => decide (x = 1)) = .row 1 ((List.range k).map fun i => Dat.leaf (.bool (decide ((numAt 1 l i) = 1)))) := by simp [datF, datI, datO, lfI, Function.comp_def]
        have h9 := hrow.held (by omega)
        rw [← hd] at h9
        have H9 := Lib.hid h9
        have HBK := Lib.hid hblk
        clear h9 hd hrow hblk
        go_wp2
        go_ret
        rw [e1.out HM.out]
        rw [show ((List.range k).map (numAt 1 l)).all (fun x => decide (x ≤ 1)) = true from List.all_eq_true.2 fun x hx => by
          obtain ⟨i, hi, rfl⟩ := List.mem_map.1 hx
          exact decide_eq_true (hones.out i (List.mem_range.1 hi))]
        exact ⟨_, none, 0, 0, none, 0, 0, A1, k, c1, rfl, fun _ => rfl, HBK.out, Held.nil _ _ _ _ _ (by unfold maxLen; omega), Held.nil _ _ _ _ _ (by unfold maxLen; omega), H9.out, hg⟩
end Go.Proofs.YtlhpmlknmgocoaaGreat
