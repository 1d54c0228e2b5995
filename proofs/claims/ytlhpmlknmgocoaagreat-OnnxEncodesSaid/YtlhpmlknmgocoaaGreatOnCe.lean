/- The writer's attr. -/
import Derived.Test.YtlhpmlknmgocoaaGreatOnCb
import Derived.Laws.Cover1
import Derived.Deep.CutBlock
namespace Go.Proofs.YtlhpmlknmgocoaaGreat
set_option linter.unusedSimpArgs false
set_option linter.unusedVariables false
open Go.RowKit

/-- rows of a kind, one of them -/
theorem Held.rowAt {w : World} {S : Nat → Prop} {α : Type} {f : α → List Dat} {n m c : Nat} {A : Option Addr} (hf : ∀ x, (f x).length = n) (hn : 0 < n) {xs : List α} (h : Held w S (.row n (xs.flatMap f)) (.slice A m c)) {k : Nat} (hk : k < xs.length) :
    ∃ b off us, A = some ⟨b, off, none⟩ ∧ S b ∧ HL w S (f xs[k]) us ∧ ∀ j u, us[j]? = some u → w.cell? ⟨b, off + k * n + j, none⟩ = some u := by
  obtain ⟨A', c', e, -, -, -, h5⟩ := Held.rows hf hn h
  injection e with e1 e2 e3
  subst e1
  obtain ⟨ad, us, hA, hs, hl, hc, hh⟩ := h5 k hk
  obtain ⟨ad0, us0, hA0, -, hl0, hc0, -⟩ := h5 0 (by omega)
  rw [hA] at hA0
  obtain rfl := Option.some.inj hA0
  obtain ⟨b, off, spot⟩ := ad
  have hs0 : spot = none := by
    have hx : us0[0]? = some us0[0] := List.getElem?_eq_getElem (by omega)
    simpa [Addr.add] using World.cell?_spot (hc0 0 _ hx)
  subst hs0
  refine ⟨b, off, us, hA, hs, HL.of (by rw [hl, hf]) hh, fun j u hj => ?_⟩
  have := hc j u hj
  rw [Addr.add_lit] at this
  rw [Nat.add_assoc]
  exact this
theorem held_name1 (w : World) (a : List UInt8) {q : Nat} (hq : q = w.heap.size) : Held (w.alloc (.cells #[.string ⟨a.toArray⟩] 9)) (fun b => b = q) (datS [a]) (.slice (some ⟨q, 0, none⟩) 1 1) := by
  subst hq
  have hb := Blk.new w 9 #[.string ⟨a.toArray⟩]
  exact .row 1 _ _ 1 1 [strV a] rfl rfl (Nat.le_refl _) (by unfold maxLen; omega) (by omega) (fun _ => ⟨_, rfl, rfl, fun j u hj => by
    rw [Addr.add_lit, Nat.zero_add, hb.cell]
    match j, hj with
    | 0, hj => exact hj⟩) (fun j h h' => by
    have : j = 0 := by simp at h; omega
    subst this
    exact .leaf _)
theorem held_name2 (w : World) (a a' : List UInt8) {q : Nat} (hq : q = w.heap.size) : Held (w.alloc (.cells #[.string ⟨a.toArray⟩, .string ⟨a'.toArray⟩] 9)) (fun b => b = q) (datS [a, a']) (.slice (some ⟨q, 0, none⟩) 2 2) := by
  subst hq
  have hb := Blk.new w 9 #[.string ⟨a.toArray⟩, .string ⟨a'.toArray⟩]
  exact .row 1 _ _ 2 2 [strV a, strV a'] rfl rfl (Nat.le_refl _) (by unfold maxLen; omega) (by omega) (fun _ => ⟨_, rfl, rfl, fun j u hj => by
    rw [Addr.add_lit, Nat.zero_add, hb.cell]
    match j, hj with
    | 0, hj => exact hj
    | 1, hj => exact hj⟩) (fun j h h' => by
    simp at h
    match j, h with
    | 0, _ => exact .leaf _
    | 1, _ => exact .leaf _)
theorem HL.att {w : World} {S : Nat → Prop} {a : Atr} {us : List Value} (h : HL w S (datA a) us) :
    ∃ A1 c1 A2 c2 A3 c3 A4 c4 A5 c5 A6 c6, us = [.string ⟨a.name.toArray⟩, .int .i64 a.kind.toInt, .int .u32 (a.f.toNat : Int), .int .i64 a.i.toInt, .string ⟨a.s.toArray⟩, .int .i64 a.t.ty.toInt, .slice A1 a.t.dims.length c1, .slice A2 a.t.f.length c2, .slice A3 a.t.i.length c3, .slice A4 a.t.b.length c4, .slice A5 a.fl.length c5, .slice A6 a.il.length c6] ∧
      HL w S (datT a.t) [.int .i64 a.t.ty.toInt, .slice A1 a.t.dims.length c1, .slice A2 a.t.f.length c2, .slice A3 a.t.i.length c3, .slice A4 a.t.b.length c4] ∧ Held w S (datF a.fl) (.slice A5 a.fl.length c5) ∧ Held w S (datI a.il) (.slice A6 a.il.length c6) ∧
      a.t.dims.length ≤ 140737488355328 ∧ a.t.f.length ≤ 140737488355328 ∧ a.t.i.length ≤ 140737488355328 ∧ a.t.b.length ≤ 140737488355328 ∧ a.fl.length ≤ 140737488355328 ∧ a.il.length ≤ 140737488355328 := by
  obtain ⟨u0, us0, rfl, h0, h⟩ := h.one
  obtain ⟨u1, us1, rfl, h1, h⟩ := h.one
  obtain ⟨u2, us2, rfl, h2, h⟩ := h.one
  obtain ⟨u3, us3, rfl, h3, h⟩ := h.one
  obtain ⟨u4, us4, rfl, h4, h⟩ := h.one
  obtain ⟨u5, us5, rfl, h5, h⟩ := h.one
  obtain ⟨u6, us6, rfl, h6, h⟩ := h.one
  obtain ⟨u7, us7, rfl, h7, h⟩ := h.one
  obtain ⟨u8, us8, rfl, h8, h⟩ := h.one
  obtain ⟨u9, us9, rfl, h9, h⟩ := h.one
  obtain ⟨u10, us10, rfl, h10, h⟩ := h.one
  obtain ⟨u11, us11, rfl, h11, h⟩ := h.one
  obtain rfl := h.none
  obtain rfl := h0.leaf_eq
  obtain rfl := h1.leaf_eq
  obtain rfl := h2.leaf_eq
  obtain rfl := h3.leaf_eq
  obtain rfl := h4.leaf_eq
  obtain rfl := h5.leaf_eq
  obtain ⟨A1, c1, rfl, -, -, b1⟩ := Held.form1 h6
  obtain ⟨A2, c2, rfl, -, -, b2⟩ := Held.form1 h7
  obtain ⟨A3, c3, rfl, -, -, b3⟩ := Held.form1 h8
  obtain ⟨A4, c4, rfl, -, -, b4⟩ := Held.form1 h9
  obtain ⟨A5, c5, rfl, -, -, b5⟩ := Held.form1 h10
  obtain ⟨A6, c6, rfl, -, -, b6⟩ := Held.form1 h11
  exact ⟨A1, c1, A2, c2, A3, c3, A4, c4, A5, c5, A6, c6, rfl, .cons h5 (.cons h6 (.cons h7 (.cons h8 (.cons h9 .nil)))), h10, h11, b1, b2, b3, b4, b5, b6⟩
/-- what is left of an attribute when its kind's own is taken out -/
def restP (a : Atr) : Atr :=
  ⟨a.name, a.kind, if a.kind = 1 then 0 else a.f, if a.kind = 2 then 0 else a.i, if a.kind = 3 then [] else a.s, if a.kind = 4 then tn0 else a.t, if a.kind = 6 then [] else a.fl, if a.kind = 7 then [] else a.il⟩
def restBad (r : Atr) : Bool := !decide ((r.f.toNat : Int) = 0) || !decide (r.i.toInt = 0) || !r.s.isEmpty || !noneT r.t || decide ((r.fl.length : Int) + (r.il.length : Int) > 0)
theorem u32_zero (x : UInt32) : decide (x = 0) = decide ((x.toNat : Int) = 0) := by
  rw [decide_eq_decide]
  constructor
  · rintro rfl; rfl
  · intro h
    exact UInt32.toNat_inj.1 (by simpa using h)
theorem i64_zero' (x : Int64) : decide (x = 0) = decide (x.toInt = 0) := by rw [decide_eq_decide, ← Int64.toInt_inj]; rfl
theorem len_zero {α β : Type} (l : List α) (l' : List β) : decide ((l.length : Int) + (l'.length : Int) > 0) = (!l.isEmpty || !l'.isEmpty) := by
  cases l <;> cases l' <;> simp <;> omega
theorem badA_rest (a : Atr) : badA a = ((!kindP a.kind || (decide (a.kind = 4) && badT a.t)) || restBad (restP a)) := by
  obtain ⟨an, ak, af, ai, as', at', afl, ail⟩ := a
  have hn : noneT tn0 = true := by decide
  unfold badA restBad restP
  rw [← u32_zero, ← i64_zero', len_zero]
  dsimp only
  generalize kindP ak = kp
  generalize badT at' = bt
  have z0 : decide ((0 : UInt32) = 0) = true := by decide
  have z1 : decide ((0 : Int64) = 0) = true := by decide
  by_cases h1 : ak = 1
  · subst h1
    simp [z0, Bool.or_assoc]
  by_cases h2 : ak = 2
  · subst h2
    simp [z1, Bool.or_assoc]
  by_cases h3 : ak = 3
  · subst h3
    simp [Bool.or_assoc]
  by_cases h4 : ak = 4
  · subst h4
    simp [hn]
    cases kp <;> cases bt <;> simp [Bool.or_assoc]
  by_cases h6 : ak = 6
  · subst h6
    simp [Bool.or_assoc]
  by_cases h7 : ak = 7
  · subst h7
    simp [Bool.or_assoc]
  simp [h1, h2, h3, h4, h6, h7, Bool.or_assoc]
def ACells (kd : Int) (r : Atr) (A1 : Option Addr) (c1 : Nat) (A2 : Option Addr) (c2 : Nat) (A3 : Option Addr) (c3 : Nat) (A4 : Option Addr) (c4 : Nat) (A5 : Option Addr) (c5 : Nat) (A6 : Option Addr) (c6 : Nat) : Array Value :=
  #[.string ⟨r.name.toArray⟩, .int .i64 kd, .int .u32 (r.f.toNat : Int), .int .i64 r.i.toInt, .string ⟨r.s.toArray⟩, .int .i64 r.t.ty.toInt, .slice A1 r.t.dims.length c1, .slice A2 r.t.f.length c2, .slice A3 r.t.i.length c3, .slice A4 r.t.b.length c4, .slice A5 r.fl.length c5, .slice A6 r.il.length c6]
/-- behind the switch -/
def ARel (w : World) (S : Nat → Prop) (g p : Nat) (b m : Bool) (kd : Int) (r : Atr) (wx : World) : Prop :=
  ∃ A1 c1 A2 c2 A3 c3 A4 c4 A5 c5 A6 c6, Blk wx p 98 (ACells kd r A1 c1 A2 c2 A3 c3 A4 c4 A5 c5 A6 c6) ∧
    HL wx S (datT r.t) [.int .i64 r.t.ty.toInt, .slice A1 r.t.dims.length c1, .slice A2 r.t.f.length c2, .slice A3 r.t.i.length c3, .slice A4 r.t.b.length c4] ∧ WrB wx g b m ∧ w.grownBy wx (some g)
theorem HL.nilT (w : World) (S : Nat → Prop) : HL w S (datT tn0) [.int .i64 0, .slice Option.none 0 0, .slice Option.none 0 0, .slice Option.none 0 0, .slice Option.none 0 0] :=
  .cons (.leaf _) (.cons (Held.nil _ _ _ _ _ (by unfold maxLen; omega)) (.cons (Held.nil _ _ _ _ _ (by unfold maxLen; omega)) (.cons (Held.nil _ _ _ _ _ (by unfold maxLen; omega)) (.cons (Held.nil _ _ _ _ _ (by unfold maxLen; omega)) .nil))))
theorem HL.rd {w w' : World} {S : Nat → Prop} {ds : List Dat} {vs : List Value} {g : Nat} (h : HL w S ds vs) (hS : ¬ S g) (hg : w.grownBy w' (some g)) : HL w' S ds vs := h.keep fun hd => hd.rd hS hg
section
variable {g : Nat} {b m : Bool} {S : Nat → Prop} {us : List Value} {w : World}
set_option maxRecDepth 100000 in
set_option maxHeartbeats 1600000 in
theorem wattr_any {a : Atr} (hk : WrB w g b m) (hl : HL w S (datA a) us) (hS : ¬ S g) :
    Calls Tryz.prog 48 #[.pointer (some ⟨g, 0, none⟩), .agg us.toArray] w (WN w g (b || badA a) (m || manyA false a)) := by
  obtain ⟨A1, c1, A2, c2, A3, c3, A4, c4, A5, c5, A6, c6, rfl, ht, -, -, b1, b2, b3, b4, b5, b6⟩ := hl.att
  have hlt := hk.lt
  obtain ⟨an, ak, af, ai, as', at', afl, ail⟩ := a
  dsimp only at *
  clear hl
  obtain ⟨cs, hcs⟩ : ∃ cs : Array Value, #[.string ⟨an.toArray⟩, .int .i64 ak.toInt, .int .u32 (af.toNat : Int), .int .i64 ai.toInt, .string ⟨as'.toArray⟩, .int .i64 at'.ty.toInt, .slice A1 at'.dims.length c1, .slice A2 at'.f.length c2, .slice A3 at'.i.length c3, .slice A4 at'.b.length c4, .slice A5 afl.length c5, .slice A6 ail.length c6] = cs := ⟨_, rfl⟩
  have HC := Lib.hid (wname_any ((hk.alloc (.cells cs 98)).alloc (.cells #[.string ⟨an.toArray⟩] 9)) (held_name1 _ an (q := w.heap.size + 1) (by simp)) (by omega))
  have HCS := Lib.hid hcs
  clear hcs
  go_enter Tryz.func48, Tryz.ntmps48
  go_wp2_with fail
  rw [HCS.out]
  refine Calls.mono HC.out ?_
  rintro e w2 ⟨rfl, hk2, hg2⟩
  have hb2 := ((Blk.new w 98 cs).alloc (.cells #[.string ⟨an.toArray⟩] 9)).grown hg2 (fun e => by injection e with e; omega)
  rw [← HCS.out] at hb2
  obtain ⟨p0, p1, p2, p3, p4, p5, p6, p7, p8, p9, p10, p11, -, -, -, -, -, -, -, -, -, -, -, -, lp⟩ := blkc12 hb2
  obtain ⟨k0, k1, z0, z1, hgw⟩ := hk2.cells
  obtain ⟨q, hq⟩ : ∃ q, (m || [an].any longP) = q := ⟨_, rfl⟩
  rw [hq] at k1
  go_upto_region 2 with fail
  go_cut [] (fun wx => wx = w2.setCell ⟨g, 1, none⟩ (.bool (q || (decide (4096 < as'.length) || decide (4096 < afl.length) || decide (4096 < ail.length)))))
  case first =>
    as_aux_lemma =>
      have hw : q = true ∨ (q = false ∧ (afl.length : Int) > as'.length ∧ (ail.length : Int) > afl.length) ∨ (q = false ∧ (afl.length : Int) > as'.length ∧ ¬ (ail.length : Int) > afl.length) ∨ (q = false ∧ ¬ (afl.length : Int) > as'.length ∧ (ail.length : Int) > as'.length) ∨ (q = false ∧ ¬ (afl.length : Int) > as'.length ∧ ¬ (ail.length : Int) > as'.length) := by cases q <;> simp; omega
      rcases hw with rfl | ⟨rfl, h1, h2⟩ | ⟨rfl, h1, h2⟩ | ⟨rfl, h1, h2⟩ | ⟨rfl, h1, h2⟩
      all_goals
        go_wp2
        go_meet
        case rel => first | (simp; done) | (rw [Bool.false_or]; congr 2; rw [Bool.eq_iff_iff]; simp only [Bool.or_eq_true, decide_eq_true_eq]; omega)
  case rest =>
    obtain ⟨c, hc⟩ : ∃ c, (decide (4096 < as'.length) || decide (4096 < afl.length) || decide (4096 < ail.length)) = c := ⟨_, rfl⟩
    rw [hc] at hcut
    have HCC := Lib.hid hc
    have hk3 : WrB wc g b (q || c) := by rw [hcut]; exact hk2.set1 _
    have hg2' : w.grownBy w2 (some g) := grown_trans (grown_trans (grown_alloc _ _) (grown_alloc _ _)) hg2
    have hg3 : w.grownBy wc (some g) := by rw [hcut]; exact grown_trans hg2' (grown_set _ _ _ _)
    have hb3 : Blk wc w.heap.size 98 #[.string ⟨an.toArray⟩, .int .i64 ak.toInt, .int .u32 (af.toNat : Int), .int .i64 ai.toInt, .string ⟨as'.toArray⟩, .int .i64 at'.ty.toInt, .slice A1 at'.dims.length c1, .slice A2 at'.f.length c2, .slice A3 at'.i.length c3, .slice A4 at'.b.length c4, .slice A5 afl.length c5, .slice A6 ail.length c6] := by
      rw [hcut]; exact hb2.far (p := ⟨g, 1, none⟩) (by simp; omega) _
    have ht3 := ht.rd hS hg3
    have HQ := Lib.hid hq
    clear hcut hk2 hg2 hg2' hb2 hc ht hq p0 p1 p2 p3 p4 p5 p6 p7 p8 p9 p10 p11 lp k0 k1 z0 z1 hgw hk HC
    obtain ⟨W3, hW⟩ : ∃ W, W = wc := ⟨_, rfl⟩
    subst hW
    obtain ⟨kd, hkd⟩ : ∃ kd, ak.toInt = kd := ⟨_, rfl⟩
    have HK : Hid (∀ n : Int64, kd = n.toInt → ak = n) := Lib.hid (fun n h => Int64.toInt_inj.1 (hkd.trans h))
    have HN : Hid (∀ n : Int64, ¬ kd = n.toInt → ¬ ak = n) := Lib.hid (fun n h e => h (by rw [← hkd, e]))
    rw [hkd] at hb3
    obtain ⟨p0, p1, p2, p3, p4, p5, p6, p7, p8, p9, p10, p11, -, -, -, -, -, -, -, -, -, -, -, -, lp⟩ := blkc12 hb3
    obtain ⟨k0, k1, z0, z1, hgw⟩ := hk3.cells
    have HT3 := Lib.hid ht3
    have HK3 := Lib.hid hk3
    have HG3 := Lib.hid hg3
    have HB3 := Lib.hid hb3
    clear hkd ht3 hk3 hg3 hb3
    go_upto_block 0 with fail
    go_cut [] (fun wx => ARel w S g W3.heap.size (b || (!kindP ak || (decide (ak = 4) && badT at'))) ((q || c) || (decide (ak = 4) && manyT false at')) kd (restP ⟨an, ak, af, ai, as', at', afl, ail⟩) wx)
    case first =>
      by_cases h1 : kd = 1
      · subst h1
        have e := HK.out 1 rfl
        subst e
        have HRP : Hid (restP ⟨an, 1, af, ai, as', at', afl, ail⟩ = ⟨an, 1, 0, ai, as', at', afl, ail⟩) := Lib.hid rfl
        go_wp2
        go_meet
        case rel =>
          rw [HRP.out]
          exact ⟨_, _, _, _, _, _, _, _, _, _, _, _, Blk.new _ _ _, HT3.out.keep (fun h => h.alloc _), (HK3.out.alloc _).to (by simp [kindP]) (by simp), grown_trans HG3.out (grown_alloc _ _)⟩
      have e1 : (kd == 1) = false := by simpa using h1
      have N1 := Lib.hid (HN.out 1 h1)
      clear h1
      by_cases h2 : kd = 2
      · subst h2
        have e := HK.out 2 rfl
        subst e
        have HRP : Hid (restP ⟨an, 2, af, ai, as', at', afl, ail⟩ = ⟨an, 2, af, 0, as', at', afl, ail⟩) := Lib.hid rfl
        go_wp2
        go_meet
        case rel =>
          rw [HRP.out]
          exact ⟨_, _, _, _, _, _, _, _, _, _, _, _, Blk.new _ _ _, HT3.out.keep (fun h => h.alloc _), (HK3.out.alloc _).to (by simp [kindP]) (by simp), grown_trans HG3.out (grown_alloc _ _)⟩
      have e2 : (kd == 2) = false := by simpa using h2
      have N2 := Lib.hid (HN.out 2 h2)
      clear h2
      by_cases h3 : kd = 3
      · subst h3
        have e := HK.out 3 rfl
        subst e
        have HRP : Hid (restP ⟨an, 3, af, ai, as', at', afl, ail⟩ = ⟨an, 3, af, ai, [], at', afl, ail⟩) := Lib.hid rfl
        go_wp2
        go_meet
        case rel =>
          rw [HRP.out]
          exact ⟨_, _, _, _, _, _, _, _, _, _, _, _, Blk.new _ _ _, HT3.out.keep (fun h => h.alloc _), (HK3.out.alloc _).to (by simp [kindP]) (by simp), grown_trans HG3.out (grown_alloc _ _)⟩
      have e3 : (kd == 3) = false := by simpa using h3
      have N3 := Lib.hid (HN.out 3 h3)
      clear h3
      by_cases h4 : kd = 4
      · subst h4
        have e := HK.out 4 rfl
        subst e
        have HRP : Hid (restP ⟨an, 4, af, ai, as', at', afl, ail⟩ = ⟨an, 4, af, ai, as', tn0, afl, ail⟩) := Lib.hid rfl
        go_wp2_with fail
        refine Calls.mono (wtensor_any (HK3.out.alloc _) (HT3.out.keep (fun h => h.alloc _))) ?_
        rintro e w4 ⟨rfl, hk4, hg4⟩
        have hp := HB3.out.lt
        have hb4 := (Blk.new W3 98 #[.string ⟨an.toArray⟩, .int .i64 4, .int .u32 (af.toNat : Int), .int .i64 ai.toInt, .string ⟨as'.toArray⟩, .int .i64 at'.ty.toInt, .slice A1 at'.dims.length c1, .slice A2 at'.f.length c2, .slice A3 at'.i.length c3, .slice A4 at'.b.length c4, .slice A5 afl.length c5, .slice A6 ail.length c6]).grown hg4 (fun e => by injection e with e; omega)
        obtain ⟨r0, r1, r2, r3, r4, r5, r6, r7, r8, r9, r10, r11, -, -, -, -, -, x5, x6, x7, x8, x9, -, -, lr⟩ := blkc12 hb4
        have HK4 := Lib.hid hk4
        have HG4 := Lib.hid hg4
        have HB4 := Lib.hid hb4
        clear hk4 hg4 hb4
        go_wp2
        go_meet
        case rel =>
          rw [HRP.out]
          have hq5 : w.heap.size ≤ W3.heap.size := HG3.out.size
          have hgp : g ≠ W3.heap.size := by omega
          refine ⟨Option.none, 0, Option.none, 0, Option.none, 0, Option.none, 0, A5, c5, A6, c6, ?_, HL.nilT _ _, ?_, ?_⟩
          · have := ((((HB4.out.set_ 5 (.int .i64 0)).set_ 6 (.slice Option.none 0 0)).set_ 7 (.slice Option.none 0 0)).set_ 8 (.slice Option.none 0 0)).set_ 9 (.slice Option.none 0 0)
            simpa [ACells, tn0] using this
          · exact WrB.to (Blk.far (Blk.far (Blk.far (Blk.far (Blk.far HK4.out (by simpa using hgp) _) (by simpa using hgp) _) (by simpa using hgp) _) (by simpa using hgp) _) (by simpa using hgp) _) (by simp [kindP]) (by simp)
          · exact grown_setOwn (grown_setOwn (grown_setOwn (grown_setOwn (grown_setOwn (grown_trans (grown_trans HG3.out (grown_alloc _ _)) HG4.out) hq5) hq5) hq5) hq5) hq5
      have e4 : (kd == 4) = false := by simpa using h4
      have N4 := Lib.hid (HN.out 4 h4)
      clear h4
      by_cases h6 : kd = 6
      · subst h6
        have e := HK.out 6 rfl
        subst e
        have HRP : Hid (restP ⟨an, 6, af, ai, as', at', afl, ail⟩ = ⟨an, 6, af, ai, as', at', [], ail⟩) := Lib.hid rfl
        go_wp2
        go_meet
        case rel =>
          rw [HRP.out]
          exact ⟨_, _, _, _, _, _, _, _, _, _, _, _, Blk.new _ _ _, HT3.out.keep (fun h => h.alloc _), (HK3.out.alloc _).to (by simp [kindP]) (by simp), grown_trans HG3.out (grown_alloc _ _)⟩
      have e6 : (kd == 6) = false := by simpa using h6
      have N6 := Lib.hid (HN.out 6 h6)
      clear h6
      by_cases h7 : kd = 7
      · subst h7
        have e := HK.out 7 rfl
        subst e
        have HRP : Hid (restP ⟨an, 7, af, ai, as', at', afl, ail⟩ = ⟨an, 7, af, ai, as', at', afl, []⟩) := Lib.hid rfl
        go_wp2
        go_meet
        case rel =>
          rw [HRP.out]
          exact ⟨_, _, _, _, _, _, _, _, _, _, _, _, Blk.new _ _ _, HT3.out.keep (fun h => h.alloc _), (HK3.out.alloc _).to (by simp [kindP]) (by simp), grown_trans HG3.out (grown_alloc _ _)⟩
      have e7 : (kd == 7) = false := by simpa using h7
      have N7 := Lib.hid (HN.out 7 h7)
      clear h7
      have HRP : Hid (restP ⟨an, ak, af, ai, as', at', afl, ail⟩ = ⟨an, ak, af, ai, as', at', afl, ail⟩) := Lib.hid (by simp [restP, N1.out, N2.out, N3.out, N4.out, N6.out, N7.out])
      have HKP : Hid (kindP ak = false) := Lib.hid (by simp [kindP, N1.out, N2.out, N3.out, N4.out, N6.out, N7.out])
      have H4 : Hid (decide (ak = 4) = false) := Lib.hid (by simp [N4.out])
      go_wp2
      go_meet
      case rel =>
        rw [HRP.out, HKP.out, H4.out]
        exact ⟨A1, c1, A2, c2, A3, c3, A4, c4, A5, c5, A6, c6, Blk.new' _ _ _ (by simp [World.setCell]), HT3.out.keep (fun h => (h.setCell (p := ⟨g, 0, Option.none⟩) hS _).alloc _), ((HK3.out.set0 _).alloc _).to (by simp) (by simp), grown_trans HG3.out (grown_trans (grown_set _ _ _ _) (grown_alloc _ _))⟩
    case rest =>
      have HB0 := Lib.hid (badA_rest ⟨an, ak, af, ai, as', at', afl, ail⟩)
      have HM0 : Hid ((m || manyA false ⟨an, ak, af, ai, as', at', afl, ail⟩) = ((q || c) || (decide (ak = 4) && manyT false at'))) := Lib.hid (by rw [← HQ.out, ← HCC.out]; simp [manyA, Bool.or_assoc])
      have hbl : (restP ⟨an, ak, af, ai, as', at', afl, ail⟩).fl.length ≤ 140737488355328 ∧ (restP ⟨an, ak, af, ai, as', at', afl, ail⟩).il.length ≤ 140737488355328 := by
        unfold restP
        dsimp only
        constructor
        · split
          · simp
          · exact b5
        · split
          · simp
          · exact b6
      dsimp only at HB0
      generalize badA ⟨an, ak, af, ai, as', at', afl, ail⟩ = bA at *
      generalize manyA false ⟨an, ak, af, ai, as', at', afl, ail⟩ = mA at *
      generalize restP ⟨an, ak, af, ai, as', at', afl, ail⟩ = r at *
      generalize ((q || c) || (decide (ak = 4) && manyT false at')) = mm at *
      generalize (!kindP ak || (decide (ak = 4) && badT at')) = bb at *
      obtain ⟨D1, d1, D2, d2, D3, d3, D4, d4, D5, d5, D6, d6, hbx, htx, hkx, hgx⟩ := hcut
      obtain ⟨rn, rk, rf, ri, rs, rt, rl, ril⟩ := r
      unfold ACells at hbx
      unfold restBad at HB0
      dsimp only at *
      clear p0 p1 p2 p3 p4 p5 p6 p7 p8 p9 p10 p11 lp k0 k1 z0 z1 hgw HT3 HK3 HG3 HB3 HK HN b1 b2 b3 b4 b5 b6 HQ HCC
      obtain ⟨l5, l6⟩ := hbl
      obtain ⟨p0, p1, p2, p3, p4, p5, p6, p7, p8, p9, p10, p11, -, -, -, -, -, -, -, -, -, -, -, -, lp⟩ := blkc12 hbx
      obtain ⟨k0, k1, z0, z1, hgw⟩ := hkx.cells
      have HTX := Lib.hid htx
      have HKX := Lib.hid hkx
      have HGX := Lib.hid hgx
      have HBX := Lib.hid hbx
      clear htx hkx hgx hbx
      generalize (rf.toNat : Int) = fv at *
      generalize ri.toInt = iv at *
      obtain ⟨q2, hq2⟩ : ∃ q2, (b || bb) = q2 := ⟨_, rfl⟩
      rw [hq2] at k0 HKX
      have HQ2 := Lib.hid hq2
      clear hq2
      have hways : q2 = true ∨ (q2 = false ∧ ¬ fv = 0) ∨ (q2 = false ∧ fv = 0 ∧ ¬ iv = 0) ∨ (q2 = false ∧ fv = 0 ∧ iv = 0 ∧ ¬ rs = []) ∨ (q2 = false ∧ fv = 0 ∧ iv = 0 ∧ rs = []) := by
        cases q2 <;> by_cases fv = 0 <;> by_cases iv = 0 <;> by_cases rs = [] <;> simp_all
      obtain ⟨W4, hW⟩ : ∃ W, W = wc := ⟨_, rfl⟩
      subst hW
      rcases hways with rfl | ⟨rfl, h1⟩ | ⟨rfl, h1, h2⟩ | ⟨rfl, h1, h2, h3⟩ | ⟨rfl, h1, h2, h3⟩
      · go_wp2
        go_end0
        exact ⟨rfl, (HKX.out.set0 _).to (by rw [HB0.out, ← Bool.or_assoc, HQ2.out]; simp) HM0.out.symm, grown_trans HGX.out (grown_set _ _ _ _)⟩
      · have e1 : (fv == 0) = false := by simpa using h1
        have HD : Hid (decide (fv = 0) = false) := Lib.hid (by simpa using h1)
        go_wp2
        go_end0
        exact ⟨rfl, (HKX.out.set0 _).to (by rw [HB0.out, ← Bool.or_assoc, HQ2.out, HD.out]; simp) HM0.out.symm, grown_trans HGX.out (grown_set _ _ _ _)⟩
      · subst h1
        have e2 : (iv == 0) = false := by simpa using h2
        have HD : Hid (decide (iv = 0) = false) := Lib.hid (by simpa using h2)
        go_wp2
        go_end0
        exact ⟨rfl, (HKX.out.set0 _).to (by rw [HB0.out, ← Bool.or_assoc, HQ2.out, HD.out]; simp) HM0.out.symm, grown_trans HGX.out (grown_set _ _ _ _)⟩
      · subst h1 h2
        have e3 : rs.isEmpty = false := by simpa using h3
        have HD := Lib.hid e3
        go_wp2
        go_end0
        exact ⟨rfl, (HKX.out.set0 _).to (by rw [HB0.out, ← Bool.or_assoc, HQ2.out, HD.out]; simp) HM0.out.symm, grown_trans HGX.out (grown_set _ _ _ _)⟩
      · subst h1 h2 h3
        go_wp2_with fail
        refine Calls.mono (none_any HTX.out) ?_
        rintro e w5 ⟨rfl, hbel⟩
        obtain ⟨p0, p1, p2, p3, p4, p5, p6, p7, p8, p9, p10, p11, -, -, -, -, -, -, -, -, -, -, -, -, lp⟩ := blkc12 (HBX.out.below hbel HBX.out.lt)
        obtain ⟨k0, k1, z0, z1, hgw⟩ := (HKX.out.past hbel).cells
        have HK5 := Lib.hid (HKX.out.past hbel)
        have HG5 := Lib.hid (grown_trans HGX.out (grown_past hbel (some g)))
        clear hbel
        generalize noneT rt = nt at *
        cases nt
        all_goals
          go_wp2
          go_end0
          refine ⟨rfl, (HK5.out.set0 _).to ?_ HM0.out.symm, grown_trans HG5.out (grown_set _ _ _ _)⟩
          rw [HB0.out, ← Bool.or_assoc, HQ2.out]
          first | (simp; done) | (rw [Bool.eq_iff_iff]; simp; omega)
end
end Go.Proofs.YtlhpmlknmgocoaaGreat
