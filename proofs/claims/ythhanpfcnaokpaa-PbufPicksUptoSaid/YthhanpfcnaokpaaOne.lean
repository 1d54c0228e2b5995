/- The contract of latticeref06.one: the field at a place. -/
import Derived.Test.YthhanpfcnaokpaaRead
import Derived.Deep.RegionLaw
namespace Go.Proofs.Ythhanpfcnaokpaa
open Go.RowKit

theorem rrdvar_at {B : Nat} {A : Option Addr} {cap : Nat} {l : List UInt8} {p : Int} {w : World} {x : Nat} {m er : Int} (hr : Hid (rvar l p = (x, m, er))) (hcap : l.length ≤ cap) (hm : cap ≤ maxLen) (hb : RB w B A l) :
    Calls Try.prog 16 #[.slice A l.length cap, .int .i64 p] w fun e w' => e = .returned (.tuple #[.int .u64 x, .int .i64 m, .int .i64 er]) ∧ w = w' := by
  refine (rrdvar_any B A cap l p w hcap hm hb).mono ?_
  rintro e w' ⟨rfl, rfl⟩
  exact ⟨by rw [hr.out]; rfl, rfl⟩
theorem rlittle_n {B : Nat} {A : Option Addr} {cap n : Nat} {l : List UInt8} {w : World} (hn : Hid (l.length = n)) (h8 : n ≤ 8) (hb : RB w B A l) :
    Calls Try.prog 44 #[.slice A n cap] w fun e w' => e = .returned (.int .u64 (lit8 l : Int)) ∧ w = w' := by
  have := hn.out
  subst this
  exact rlittle_any B A cap l w h8 hb

/-- what one answers -/
def OneR (w : World) (r : Option (Fld × Nat)) (e : Ending) (w' : World) : Prop := match r with
  | none => ∃ n0 n1 n2 A n c nx, Below w.heap.size w w' ∧ e = .returned (.tuple #[.agg #[.int .i64 n0, .int .i64 n1, .int .u64 n2, .slice A n c], .int .i64 nx, .bool false])
  | some (f, q) => ∃ A n c, OB w' w.heap.size (.slice A n c) f.data ∧ Below w.heap.size w w' ∧ e = .returned (.tuple #[.agg #[.int .i64 f.num, .int .i64 f.wire, .int .u64 (f.x : Int), .slice A n c], .int .i64 (q : Int), .bool true])
theorem OneR.no {w w' : World} {r : Option (Fld × Nat)} (h : r = none) (n0 n1 n2 A n c nx) (hb : Below w.heap.size w w') : OneR w r (.returned (.tuple #[.agg #[.int .i64 n0, .int .i64 n1, .int .u64 n2, .slice A n c], .int .i64 nx, .bool false])) w' := by
  subst h; exact ⟨n0, n1, n2, A, n, c, nx, hb, rfl⟩
theorem OneR.yes {w w' : World} {r : Option (Fld × Nat)} {f : Fld} {q : Nat} (h : r = some (f, q)) {n0 n1 n2 A n c nx} (hn0 : n0 = f.num) (hn1 : n1 = f.wire) (hn2 : n2 = (f.x : Int)) (hnx : nx = (q : Int)) (ho : OB w' w.heap.size (.slice A n c) f.data) (hb : Below w.heap.size w w') :
    OneR w r (.returned (.tuple #[.agg #[.int .i64 n0, .int .i64 n1, .int .u64 n2, .slice A n c], .int .i64 nx, .bool true])) w' := by
  subst h hn0 hn1 hn2 hnx; exact ⟨A, n, c, ho, hb, rfl⟩

section
variable (B : Nat) (A : Option Addr) (cap : Nat) (l : List UInt8) (p : Nat) (w : World) (hp : p ≤ l.length) (hcap : l.length ≤ cap) (hm : cap ≤ maxLen) (hb : RB w B A l) (hB : B ≤ w.heap.size) (h47 : l.length ≤ 140737488355328)
include hp hcap hm hb hB

set_option maxRecDepth 100000 in
set_option maxHeartbeats 400000 in
theorem one_none (ht : rdv 0 (l.drop p) = none) : Calls Try.prog 38 #[.slice A l.length cap, .int .i64 p] w (OneR w (rdF l p)) := by
  have HR := Lib.hid (rvar_none hp ht)
  have HL := Lib.hid (rdF_none ht)
  have hb1 := hb.alloc hB (.cells #[.int .i64 0, .int .i64 0, .int .u64 0, .slice none 0 0] 55)
  clear ht
  go_enter Try.func38, Try.ntmps38
  go_wp2_with (go_at_call 16; refine (rrdvar_at HR hcap hm hb1).mono ?_; rintro e w' ⟨rfl, rfl⟩)
  refine bodyPost_ret (by simp [results, Try.results38, go_sem]; rfl) rfl ?_
  exact OneR.no HL.out _ _ _ _ _ _ _ ((Below.refl _ _).alloc (Nat.le_refl _) _)

set_option maxRecDepth 100000 in
set_option maxHeartbeats 800000 in
theorem one_bad  {tag n : Nat} (ht : rdv 0 (l.drop p) = some (tag, n)) (hbad : tag / 8 < 1 ∨ 536870911 < tag / 8) : Calls Try.prog 38 #[.slice A l.length cap, .int .i64 p] w (OneR w (rdF l p)) := by
  have HR := Lib.hid (rvar_some hp ht)
  have HL := Lib.hid (rdF_bad ht hbad)
  have hq8 := wrap_quo8 tag (rdv_lt64 ht)
  have hb1 := hb.alloc hB (.cells #[.int .i64 0, .int .i64 0, .int .u64 0, .slice none 0 0] 55)
  clear ht
  by_cases h1 : tag / 8 < 1
  · have h2 : (tag : Int) / 8 < 1 := by omega
    go_enter Try.func38, Try.ntmps38
    go_wp2_with (go_at_call 16; refine (rrdvar_at HR hcap hm hb1).mono ?_; rintro e w' ⟨rfl, rfl⟩)
    refine bodyPost_ret (by simp [results, Try.results38, go_sem]; rfl) rfl ?_
    exact OneR.no HL.out _ _ _ _ _ _ _ ((Below.refl _ _).alloc (Nat.le_refl _) _)
  · have h2 : 1 ≤ (tag : Int) / 8 := by omega
    have h3 : 536870911 < (tag : Int) / 8 := by omega
    go_enter Try.func38, Try.ntmps38
    go_wp2_with (go_at_call 16; refine (rrdvar_at HR hcap hm hb1).mono ?_; rintro e w' ⟨rfl, rfl⟩)
    refine bodyPost_ret (by simp [results, Try.results38, go_sem]; rfl) rfl ?_
    exact OneR.no HL.out _ _ _ _ _ _ _ ((Below.refl _ _).alloc (Nat.le_refl _) _)

section
variable {tag n : Nat} (ht : rdv 0 (l.drop p) = some (tag, n)) (hgood : ¬ (tag / 8 < 1 ∨ 536870911 < tag / 8))
include ht hgood

set_option maxRecDepth 100000 in
set_option maxHeartbeats 800000 in
theorem one0  (hw : tag % 8 = 0) : Calls Try.prog 38 #[.slice A l.length cap, .int .i64 p] w (OneR w (rdF l p)) := by
  have HR := Lib.hid (rvar_some hp ht)
  have hn := rdv_len _ _ _ _ ht
  rw [List.length_drop] at hn
  have HT := Lib.hid (rdv_lt64 ht)
  have hq8 := wrap_quo8 tag (rdv_lt64 ht)
  have h2 : 1 ≤ (tag : Int) / 8 := by omega
  have h3 : (tag : Int) / 8 ≤ 536870911 := by omega
  have hb1 := hb.alloc hB (.cells #[.int .i64 0, .int .i64 0, .int .u64 0, .slice none 0 0] 55)
  have hb2 := hb1.alloc (by simp; omega) (.cells #[.int .i64 ((tag : Int) / 8), .int .i64 0, .int .u64 0, .slice none 0 0] 55)
  have hw1 : (tag : Int) % 8 = 0 := by omega
  cases hv : rdv 0 (l.drop (p + n)) with
  | none =>
    have HR2 := Lib.hid (rvar_none (by omega) hv)
    have HL := Lib.hid (show rdF l p = none by rw [rdF_part ht hgood, hw]; simp [part, hv])
    clear ht hv
    go_enter Try.func38, Try.ntmps38
    go_wp2_with fail
    refine (rrdvar_at HR hcap hm hb1).mono ?_
    rintro e w' ⟨rfl, rfl⟩
    go_wp2_with fail
    refine (rrdvar_at HR2 hcap hm hb2).mono ?_
    rintro e w' ⟨rfl, rfl⟩
    go_wp2
    refine bodyPost_ret (by simp [results, Try.results38, go_sem]; rfl) rfl ?_
    exact OneR.no HL.out _ _ _ _ _ _ _ (((Below.refl _ _).alloc (Nat.le_refl _) _).alloc (by simp) _)
  | some r =>
    obtain ⟨x, n'⟩ := r
    have HR2 := Lib.hid (rvar_some (by omega) hv)
    have HL := Lib.hid (show rdF l p = some (⟨(tag / 8 : Nat), 0, x, []⟩, p + n + n') by rw [rdF_part ht hgood, hw]; simp [part, hv])
    clear ht hv
    go_enter Try.func38, Try.ntmps38
    go_wp2_with fail
    refine (rrdvar_at HR hcap hm hb1).mono ?_
    rintro e w' ⟨rfl, rfl⟩
    go_wp2_with fail
    refine (rrdvar_at HR2 hcap hm hb2).mono ?_
    rintro e w' ⟨rfl, rfl⟩
    go_wp2
    refine bodyPost_ret (by simp [results, Try.results38, go_sem]; rfl) rfl ?_
    exact OneR.yes HL.out rfl rfl rfl (by simp) (OB.nil _ _) (((Below.refl _ _).alloc (Nat.le_refl _) _).alloc (by simp) _)

set_option maxRecDepth 100000 in
set_option maxHeartbeats 800000 in
theorem one1  (hw : tag % 8 = 1) : Calls Try.prog 38 #[.slice A l.length cap, .int .i64 p] w (OneR w (rdF l p)) := by
  have HR := Lib.hid (rvar_some hp ht)
  have hn := rdv_len _ _ _ _ ht
  rw [List.length_drop] at hn
  have HT := Lib.hid (rdv_lt64 ht)
  have hq8 := wrap_quo8 tag (rdv_lt64 ht)
  have h2 : 1 ≤ (tag : Int) / 8 := by omega
  have h3 : (tag : Int) / 8 ≤ 536870911 := by omega
  have hb1 := hb.alloc hB (.cells #[.int .i64 0, .int .i64 0, .int .u64 0, .slice none 0 0] 55)
  have hb2 := hb1.alloc (by simp; omega) (.cells #[.int .i64 ((tag : Int) / 8), .int .i64 1, .int .u64 0, .slice none 0 0] 55)
  have hw1 : (tag : Int) % 8 = 1 := by omega
  have hm' := hm
  unfold maxLen at hm
  by_cases hx : p + n + 8 ≤ l.length
  · have HN : Hid (((l.drop (p + n)).take 8).length = 8) := by show _ = _; simp; omega
    have hc := (hb2.cutA (k := p + n) (by omega) hcap).take 8
    have HL := Lib.hid (show rdF l p = some (⟨(tag / 8 : Nat), 1, lit8 ((l.drop (p + n)).take 8), []⟩, p + n + 8) by rw [rdF_part ht hgood, hw]; simp [part, hx])
    have g1 : 8 ≤ (l.length : Int) - (p + n) := by omega
    have g2 : (p : Int) + n ≤ (p : Int) + n + 8 := by omega
    have g3 : (p : Int) + n + 8 ≤ (cap : Int) := by omega
    have g4 : 0 ≤ (p : Int) + n := by omega
    clear ht
    go_enter Try.func38, Try.ntmps38
    go_wp2_with fail
    refine (rrdvar_at HR hcap hm' hb1).mono ?_
    rintro e w' ⟨rfl, rfl⟩
    go_wp2_with (go_at_call 44; go_must (refine (rlittle_n HN (by omega) hc).mono ?_); rintro e w' ⟨rfl, rfl⟩)
    refine bodyPost_ret (by simp [results, Try.results38, go_sem]; rfl) rfl ?_
    exact OneR.yes HL.out rfl rfl rfl (by simp) (OB.nil _ _) (((Below.refl _ _).alloc (Nat.le_refl _) _).alloc (by simp) _)
  · have HL := Lib.hid (show rdF l p = none by rw [rdF_part ht hgood, hw]; simp [part, hx])
    have g1 : (l.length : Int) - (p + n) < 8 := by omega
    clear ht
    go_enter Try.func38, Try.ntmps38
    go_wp2_with fail
    refine (rrdvar_at HR hcap hm' hb1).mono ?_
    rintro e w' ⟨rfl, rfl⟩
    go_wp2
    refine bodyPost_ret (by simp [results, Try.results38, go_sem]; rfl) rfl ?_
    exact OneR.no HL.out _ _ _ _ _ _ _ (((Below.refl _ _).alloc (Nat.le_refl _) _).alloc (by simp) _)

set_option maxRecDepth 100000 in
set_option maxHeartbeats 800000 in
theorem one5  (hw : tag % 8 = 5) : Calls Try.prog 38 #[.slice A l.length cap, .int .i64 p] w (OneR w (rdF l p)) := by
  have HR := Lib.hid (rvar_some hp ht)
  have hn := rdv_len _ _ _ _ ht
  rw [List.length_drop] at hn
  have HT := Lib.hid (rdv_lt64 ht)
  have hq8 := wrap_quo8 tag (rdv_lt64 ht)
  have h2 : 1 ≤ (tag : Int) / 8 := by omega
  have h3 : (tag : Int) / 8 ≤ 536870911 := by omega
  have hb1 := hb.alloc hB (.cells #[.int .i64 0, .int .i64 0, .int .u64 0, .slice none 0 0] 55)
  have hb2 := hb1.alloc (by simp; omega) (.cells #[.int .i64 ((tag : Int) / 8), .int .i64 5, .int .u64 0, .slice none 0 0] 55)
  have hw1 : (tag : Int) % 8 = 5 := by omega
  have hm' := hm
  unfold maxLen at hm
  by_cases hx : p + n + 4 ≤ l.length
  · have HN : Hid (((l.drop (p + n)).take 4).length = 4) := by show _ = _; simp; omega
    have hc := (hb2.cutA (k := p + n) (by omega) hcap).take 4
    have HL := Lib.hid (show rdF l p = some (⟨(tag / 8 : Nat), 5, lit8 ((l.drop (p + n)).take 4), []⟩, p + n + 4) by rw [rdF_part ht hgood, hw]; simp [part, hx])
    have g1 : 4 ≤ (l.length : Int) - (p + n) := by omega
    have g2 : (p : Int) + n ≤ (p : Int) + n + 4 := by omega
    have g3 : (p : Int) + n + 4 ≤ (cap : Int) := by omega
    have g4 : 0 ≤ (p : Int) + n := by omega
    clear ht
    go_enter Try.func38, Try.ntmps38
    go_wp2_with fail
    refine (rrdvar_at HR hcap hm' hb1).mono ?_
    rintro e w' ⟨rfl, rfl⟩
    go_wp2_with (go_at_call 44; go_must (refine (rlittle_n HN (by omega) hc).mono ?_); rintro e w' ⟨rfl, rfl⟩)
    refine bodyPost_ret (by simp [results, Try.results38, go_sem]; rfl) rfl ?_
    exact OneR.yes HL.out rfl rfl rfl (by simp) (OB.nil _ _) (((Below.refl _ _).alloc (Nat.le_refl _) _).alloc (by simp) _)
  · have HL := Lib.hid (show rdF l p = none by rw [rdF_part ht hgood, hw]; simp [part, hx])
    have g1 : (l.length : Int) - (p + n) < 4 := by omega
    clear ht
    go_enter Try.func38, Try.ntmps38
    go_wp2_with fail
    refine (rrdvar_at HR hcap hm' hb1).mono ?_
    rintro e w' ⟨rfl, rfl⟩
    go_wp2
    refine bodyPost_ret (by simp [results, Try.results38, go_sem]; rfl) rfl ?_
    exact OneR.no HL.out _ _ _ _ _ _ _ (((Below.refl _ _).alloc (Nat.le_refl _) _).alloc (by simp) _)

set_option maxRecDepth 100000 in
set_option maxHeartbeats 800000 in
theorem onex  (h0 : tag % 8 ≠ 0) (h1 : tag % 8 ≠ 1) (h25 : tag % 8 ≠ 2 ∧ tag % 8 ≠ 5) : Calls Try.prog 38 #[.slice A l.length cap, .int .i64 p] w (OneR w (rdF l p)) := by
  have HR := Lib.hid (rvar_some hp ht)
  have hn := rdv_len _ _ _ _ ht
  rw [List.length_drop] at hn
  have HT := Lib.hid (rdv_lt64 ht)
  have hq8 := wrap_quo8 tag (rdv_lt64 ht)
  have h2 : 1 ≤ (tag : Int) / 8 := by omega
  have h3 : (tag : Int) / 8 ≤ 536870911 := by omega
  have hb1 := hb.alloc hB (.cells #[.int .i64 0, .int .i64 0, .int .u64 0, .slice none 0 0] 55)
  have HL := Lib.hid (show rdF l p = none by rw [rdF_part ht hgood]; simp [part, h0, h1, h25.1, h25.2])
  have e0 : ((tag : Int) % 8 == 0) = false := by rw [beq_eq_false_iff_ne]; omega
  have e1 : ((tag : Int) % 8 == 1) = false := by rw [beq_eq_false_iff_ne]; omega
  have e2 : ((tag : Int) % 8 == 2) = false := by rw [beq_eq_false_iff_ne]; omega
  have e5 : ((tag : Int) % 8 == 5) = false := by rw [beq_eq_false_iff_ne]; omega
  clear ht h0 h1 h25
  go_enter Try.func38, Try.ntmps38
  go_wp2_with fail
  refine (rrdvar_at HR hcap hm hb1).mono ?_
  rintro e w' ⟨rfl, rfl⟩
  go_wp2
  refine bodyPost_ret (by simp [results, Try.results38, go_sem]; rfl) rfl ?_
  exact OneR.no HL.out _ _ _ _ _ _ _ (((Below.refl _ _).alloc (Nat.le_refl _) _).alloc (by simp) _)

set_option maxRecDepth 100000 in
set_option maxHeartbeats 800000 in
theorem one2  (hw : tag % 8 = 2) (h47 : l.length ≤ 140737488355328) : Calls Try.prog 38 #[.slice A l.length cap, .int .i64 p] w (OneR w (rdF l p)) := by
  have HR := Lib.hid (rvar_some hp ht)
  have hn := rdv_len _ _ _ _ ht
  rw [List.length_drop] at hn
  have HT := Lib.hid (rdv_lt64 ht)
  have hq8 := wrap_quo8 tag (rdv_lt64 ht)
  have h2 : 1 ≤ (tag : Int) / 8 := by omega
  have h3 : (tag : Int) / 8 ≤ 536870911 := by omega
  have hb1 := hb.alloc hB (.cells #[.int .i64 0, .int .i64 0, .int .u64 0, .slice none 0 0] 55)
  have hb2 := hb1.alloc (by simp; omega) (.cells #[.int .i64 ((tag : Int) / 8), .int .i64 2, .int .u64 0, .slice none 0 0] 55)
  have hw1 : (tag : Int) % 8 = 2 := by omega
  have hm' := hm
  unfold maxLen at hm
  cases hv : rdv 0 (l.drop (p + n)) with
  | none =>
    have HR2 := Lib.hid (rvar_none (by omega) hv)
    have HL := Lib.hid (show rdF l p = none by rw [rdF_part ht hgood, hw]; simp [part, hv])
    clear ht hv
    go_enter Try.func38, Try.ntmps38
    go_wp2_with fail
    refine (rrdvar_at HR hcap hm' hb1).mono ?_
    rintro e w' ⟨rfl, rfl⟩
    go_wp2_with fail
    refine (rrdvar_at HR2 hcap hm' hb2).mono ?_
    rintro e w' ⟨rfl, rfl⟩
    go_wp2
    refine bodyPost_ret (by simp [results, Try.results38, go_sem]; rfl) rfl ?_
    exact OneR.no HL.out _ _ _ _ _ _ _ (((Below.refl _ _).alloc (Nat.le_refl _) _).alloc (by simp) _)
  | some r =>
    obtain ⟨x, n'⟩ := r
    have HR2 := Lib.hid (rvar_some (by omega) hv)
    have hn' := rdv_len _ _ _ _ hv
    rw [List.length_drop] at hn'
    by_cases hx : p + n + n' + x ≤ l.length
    · have HL := Lib.hid (show rdF l p = some (⟨(tag / 8 : Nat), 2, 0, (l.drop (p + n + n')).take x⟩, p + n + n' + x) by rw [rdF_part ht hgood, hw]; simp [part, hv, hx])
      have hc := (hb2.cutA (k := p + n + n') (by omega) hcap).take x
      have HN : Hid (((l.drop (p + n + n')).take x).length = x) := by show _ = _; simp; omega
      have g1 : (x : Int) ≤ (l.length : Int) - (p + n + n') := by omega
      have g2 : (p : Int) + n + n' ≤ (p : Int) + n + n' + x := by omega
      have g3 : (p : Int) + n + n' + x ≤ (cap : Int) := by omega
      have g4 : 0 ≤ (p : Int) + n + n' := by omega
      clear ht hv
      go_enter Try.func38, Try.ntmps38
      go_wp2_with fail
      refine (rrdvar_at HR hcap hm' hb1).mono ?_
      rintro e w' ⟨rfl, rfl⟩
      go_wp2_with fail
      refine (rrdvar_at HR2 hcap hm' hb2).mono ?_
      rintro e w' ⟨rfl, rfl⟩
      go_wp2_with fail
      have hk0 := ((Blk.new w 55 #[.int .i64 0, .int .i64 0, .int .u64 0, .slice none 0 0]).alloc (.cells #[.int .i64 ((tag : Int) / 8), .int .i64 2, .int .u64 0, .slice none 0 0] 55)).drew
      have hk1 := (Blk.new' (w.alloc (.cells #[.int .i64 0, .int .i64 0, .int .u64 0, .slice none 0 0] 55)) 55 #[.int .i64 ((tag : Int) / 8), .int .i64 2, .int .u64 0, .slice none 0 0] (g := w.heap.size + 1) (by simp)).drew
      have hs1 : IntKind.i64.wrap (x : Int) = x := IntWalk.i64_in _ (by omega)
      have hs2 : IntKind.i64.wrap ((p : Int) + n + n' + x) = (p : Int) + n + n' + x := IntWalk.i64_in _ (by omega)
      have hs3 : ((p : Int) + n + n').toNat = p + n + n' := by omega
      have hs4 : ((p : Int) + n + n' + x).toNat = p + n + n' + x := by omega
      go_region_law (refine step_bytes rfl _ _ rfl (OB.nil _ (w.heap.size + 2)) rfl ((l.drop (p + n + n')).take x) rfl (by have := HN.out; omega) hc.drew (by rw [HN.out]; simp; omega) (by simp) ?_
                     intro A' n1 c' w' ho hg
                     obtain ⟨f0, f1, f2, f3, f4, f5, f6, f7, f8⟩ := cells_grown hg hk0
                     obtain ⟨g0, g1, g2, g3, g4, g5, g6, g7, g8⟩ := cells_grown hg hk1)
      clear hs1 hs2 hs3 hs4
      go_wp2
      refine bodyPost_ret (by simp [results, Try.results38, go_sem, f0, f1, f2, f3]; rfl) rfl ?_
      have ho1 := ho.setLow (p := ⟨w.heap.size + 1, 3, none⟩) (by simp) (.slice A' n1 c')
      have ho2 := (((ho1.setLow (p := ⟨w.heap.size, 0, none⟩) (by simp) (.int .i64 ((tag : Int) / 8))).setLow (p := ⟨w.heap.size, 1, none⟩) (by simp) (.int .i64 2)).setLow (p := ⟨w.heap.size, 2, none⟩) (by simp) (.int .u64 0)).setLow (p := ⟨w.heap.size, 3, none⟩) (by simp) (.slice A' n1 c')
      refine OneR.yes HL.out rfl rfl rfl (by simp) (ho2.mono (by omega)) ?_
      have hbel : Below w.heap.size w w' := (((Below.refl _ _).alloc (Nat.le_refl _) _).alloc (by simp) _).drew.grown hg (by simp; omega) (by simp [Value.ownBlock])
      exact ((((hbel.setCell (by simp) _).setCell (by simp) _).setCell (by simp) _).setCell (by simp) _).setCell (by simp) _
    · have HL := Lib.hid (show rdF l p = none by rw [rdF_part ht hgood, hw]; simp [part, hv, hx])
      have g1 : ¬ ((x : Int) ≤ (l.length : Int) - (p + n + n')) := by omega
      clear ht hv
      go_enter Try.func38, Try.ntmps38
      go_wp2_with fail
      refine (rrdvar_at HR hcap hm' hb1).mono ?_
      rintro e w' ⟨rfl, rfl⟩
      go_wp2_with fail
      refine (rrdvar_at HR2 hcap hm' hb2).mono ?_
      rintro e w' ⟨rfl, rfl⟩
      go_wp2
      refine bodyPost_ret (by simp [results, Try.results38, go_sem]; rfl) rfl ?_
      exact OneR.no HL.out _ _ _ _ _ _ _ (((Below.refl _ _).alloc (Nat.le_refl _) _).alloc (by simp) _)
end
end
end Go.Proofs.Ythhanpfcnaokpaa
