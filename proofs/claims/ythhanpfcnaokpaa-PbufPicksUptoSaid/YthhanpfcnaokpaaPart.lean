/- The contract of pbuf.part: what stands behind a tag. -/
import Derived.Test.YthhanpfcnaokpaaLitt
import Derived.Test.YthhanpfcnaokpaaWrit
import Derived.Deep.DeepMust
namespace Go.Proofs.Ythhanpfcnaokpaa
open Go.RowKit

theorem results_tmp4 {fn : Func} {t u v x : Tmp} (h : fn.results = #[.tmp t, .tmp u, .tmp v, .tmp x]) (tmps : Array Value) (P : Program) (w : World) :
    (results fn tmps).run P w = .ok (.tuple #[tmps.getD t undef, tmps.getD u undef, tmps.getD v undef, tmps.getD x undef]) w := by simp [results, h]

/-- ReadVarint's contract where its answer is known -/
theorem rdvar_at {B : Nat} {A : Option Addr} {cap : Nat} {l : List UInt8} {p : Int} {w : World} {x : Nat} {m er : Int} (hr : Hid (rvar l p = (x, m, er))) (hcap : l.length ≤ cap) (hm : cap ≤ maxLen) (hb : RB w B A l) :
    Calls Try.prog 15 #[.slice A l.length cap, .int .i64 p] w fun e w' => e = .returned (.tuple #[.int .u64 x, .int .i64 m, .int .i64 er]) ∧ w = w' := by
  refine (rdvar_any B A cap l p w hcap hm hb).mono ?_
  rintro e w' ⟨rfl, rfl⟩
  exact ⟨by rw [hr.out]; rfl, rfl⟩

/-- what part answers -/
def PartR (w : World) (r : Option (Nat × List UInt8 × Nat)) (e : Ending) (w' : World) : Prop :=
  ∃ v, OB w' w.heap.size v ((r.map fun q => q.2.1).getD []) ∧ Below w.heap.size w w' ∧
    e = .returned (.tuple #[.int .u64 ((r.map fun q => q.1).getD 0 : Nat), v, .int .i64 ((r.map fun q => q.2.2).getD 0 : Nat), .bool r.isSome])

theorem PartR.none_ {w : World} {r : Option (Nat × List UInt8 × Nat)} (h : r = none) : PartR w r (.returned (.tuple #[.int .u64 0, .slice none 0 0, .int .i64 0, .bool false])) w := by
  subst h; exact ⟨_, OB.nil _ _, Below.refl _ _, rfl⟩
theorem PartR.num {w : World} {r : Option (Nat × List UInt8 × Nat)} {x n : Nat} {a b : Int} (h : r = some (x, [], n)) (h1 : a = x) (h2 : b = n) : PartR w r (.returned (.tuple #[.int .u64 a, .slice none 0 0, .int .i64 b, .bool true])) w := by
  subst h h1 h2; exact ⟨_, OB.nil _ _, Below.refl _ _, rfl⟩
theorem PartR.data {w w' : World} {v : Value} {r : Option (Nat × List UInt8 × Nat)} {l : List UInt8} {n : Nat} {b : Int} (h : r = some (0, l, n)) (ho : OB w' w.heap.size v l) (hb : Below w.heap.size w w') (h2 : b = n) : PartR w r (.returned (.tuple #[.int .u64 0, v, .int .i64 b, .bool true])) w' := by
  subst h h2; exact ⟨_, ho, hb, rfl⟩

set_option maxRecDepth 100000 in
set_option maxHeartbeats 400000 in
theorem part0 (B : Nat) (A : Option Addr) (cap : Nat) (l : List UInt8) (p : Nat) (w : World) (hp : p ≤ l.length) (hcap : l.length ≤ cap) (hm : cap ≤ maxLen) (hb : RB w B A l) :
    Calls Try.prog 37 #[.slice A l.length cap, .int .i64 p, .int .i64 0] w (PartR w (part l p 0)) := by
  cases h : rdv 0 (l.drop p) with
  | none =>
    have HR := Lib.hid (rvar_none hp h)
    have HP := Lib.hid (show part l p 0 = none by simp [part, h])
    clear h
    go_enter Try.func37, Try.ntmps37
    go_wp2_with (go_at_call 15; refine (rdvar_at HR hcap hm hb).mono ?_; rintro e w' ⟨rfl, rfl⟩)
    refine bodyPost_ret (results_tmp4 rfl _ _ _) rfl ?_
    exact PartR.none_ HP.out
  | some q =>
    obtain ⟨x, n⟩ := q
    have HR := Lib.hid (rvar_some hp h)
    have HP := Lib.hid (show part l p 0 = some (x, [], p + n) by simp [part, h])
    clear h
    go_enter Try.func37, Try.ntmps37
    go_wp2_with (go_at_call 15; refine (rdvar_at HR hcap hm hb).mono ?_; rintro e w' ⟨rfl, rfl⟩)
    refine bodyPost_ret (results_tmp4 rfl _ _ _) rfl ?_
    exact PartR.num HP.out rfl rfl

theorem little_n {B : Nat} {A : Option Addr} {cap n : Nat} {l : List UInt8} {w : World} (hn : Hid (l.length = n)) (h8 : n ≤ 8) (hb : RB w B A l) :
    Calls Try.prog 43 #[.slice A n cap] w fun e w' => e = .returned (.int .u64 (lit8 l : Int)) ∧ w = w' := by
  have := hn.out
  subst this
  exact little_any B A cap l w h8 hb

set_option maxRecDepth 100000 in
set_option maxHeartbeats 400000 in
theorem part1 (B : Nat) (A : Option Addr) (cap : Nat) (l : List UInt8) (p : Nat) (w : World) (hp : p ≤ l.length) (hcap : l.length ≤ cap) (hm : cap ≤ maxLen) (hb : RB w B A l) :
    Calls Try.prog 37 #[.slice A l.length cap, .int .i64 p, .int .i64 1] w (PartR w (part l p 1)) := by
  unfold maxLen at hm
  have hc := (hb.cutA (k := p) hp hcap).take 8
  by_cases h : p + 8 ≤ l.length
  · have HL : Hid (((l.drop p).take 8).length = 8) := by show _ = _; simp; omega
    have HP := Lib.hid (show part l p 1 = some (lit8 ((l.drop p).take 8), [], p + 8) by simp [part, h])
    have h1 : 8 ≤ (l.length : Int) - p := by omega
    have h2 : (p : Int) ≤ (p : Int) + 8 := by omega
    have h3 : (p : Int) + 8 ≤ (cap : Int) := by omega
    go_enter Try.func37, Try.ntmps37
    go_wp2_with (go_at_call 43; refine (little_n HL (by omega) hc).mono ?_; rintro e w' ⟨rfl, rfl⟩)
    refine bodyPost_ret (results_tmp4 rfl _ _ _) rfl ?_
    exact PartR.num HP.out rfl (by omega)
  · have HP := Lib.hid (show part l p 1 = none by simp [part, h])
    have h1 : ¬ 8 ≤ (l.length : Int) - p := by omega
    go_enter Try.func37, Try.ntmps37
    go_wp2
    refine bodyPost_ret (results_tmp4 rfl _ _ _) rfl ?_
    exact PartR.none_ HP.out

set_option maxRecDepth 100000 in
set_option maxHeartbeats 400000 in
theorem part5 (B : Nat) (A : Option Addr) (cap : Nat) (l : List UInt8) (p : Nat) (w : World) (hp : p ≤ l.length) (hcap : l.length ≤ cap) (hm : cap ≤ maxLen) (hb : RB w B A l) :
    Calls Try.prog 37 #[.slice A l.length cap, .int .i64 p, .int .i64 5] w (PartR w (part l p 5)) := by
  unfold maxLen at hm
  have hc := (hb.cutA (k := p) hp hcap).take 4
  by_cases h : p + 4 ≤ l.length
  · have HL : Hid (((l.drop p).take 4).length = 4) := by show _ = _; simp; omega
    have HP := Lib.hid (show part l p 5 = some (lit8 ((l.drop p).take 4), [], p + 4) by simp [part, h])
    have h1 : 4 ≤ (l.length : Int) - p := by omega
    have h2 : (p : Int) ≤ (p : Int) + 4 := by omega
    have h3 : (p : Int) + 4 ≤ (cap : Int) := by omega
    go_enter Try.func37, Try.ntmps37
    go_wp2_with (go_at_call 43; refine (little_n HL (by omega) hc).mono ?_; rintro e w' ⟨rfl, rfl⟩)
    refine bodyPost_ret (results_tmp4 rfl _ _ _) rfl ?_
    exact PartR.num HP.out rfl (by omega)
  · have HP := Lib.hid (show part l p 5 = none by simp [part, h])
    have h1 : ¬ 4 ≤ (l.length : Int) - p := by omega
    go_enter Try.func37, Try.ntmps37
    go_wp2
    refine bodyPost_ret (results_tmp4 rfl _ _ _) rfl ?_
    exact PartR.none_ HP.out

set_option maxRecDepth 100000 in
set_option maxHeartbeats 400000 in
theorem part2 (B : Nat) (A : Option Addr) (cap : Nat) (l : List UInt8) (p : Nat) (w : World) (hp : p ≤ l.length) (hcap : l.length ≤ cap) (hm : cap ≤ maxLen) (hb : RB w B A l) (hB : B ≤ w.heap.size) (h47 : l.length ≤ 140737488355328) :
    Calls Try.prog 37 #[.slice A l.length cap, .int .i64 p, .int .i64 2] w (PartR w (part l p 2)) := by
  have hm' := hm
  unfold maxLen at hm
  cases h : rdv 0 (l.drop p) with
  | none =>
    have HR := Lib.hid (rvar_none hp h)
    have HP := Lib.hid (show part l p 2 = none by simp [part, h])
    clear h
    go_enter Try.func37, Try.ntmps37
    go_wp2_with (go_at_call 15; refine (rdvar_at HR hcap hm' hb).mono ?_; rintro e w' ⟨rfl, rfl⟩)
    refine bodyPost_ret (results_tmp4 rfl _ _ _) rfl ?_
    exact PartR.none_ HP.out
  | some q =>
    obtain ⟨x, n⟩ := q
    have HR := Lib.hid (rvar_some hp h)
    have hn := rdv_len _ _ _ _ h
    rw [List.length_drop] at hn
    by_cases hx : p + n + x ≤ l.length
    · have HP := Lib.hid (show part l p 2 = some (0, (l.drop (p + n)).take x, p + n + x) by simp [part, h, hx])
      have hc := (hb.cutA (k := p + n) (by omega) hcap).take x
      have hlen : ((l.drop (p + n)).take x).length = x := by simp; omega
      have HL := Lib.hid hlen
      have h2 : (p : Int) + n ≤ (p : Int) + n + x := by omega
      have h4 : 0 ≤ (p : Int) + n := by omega
      have h3 : (p : Int) + n + x ≤ (cap : Int) := by omega
      clear h hlen
      go_enter Try.func37, Try.ntmps37
      go_wp2_with (first
        | (go_at_call 15; refine (rdvar_at HR hcap hm' hb).mono ?_; rintro e w' ⟨rfl, rfl⟩)
        | (at_builtin; go_must (refine append_bytes rfl _ _ rfl (OB.made w w.heap.size (Nat.le_refl _)) rfl ((l.drop (p + n)).take x) rfl (by rw [HL.out]; omega) (hc.alloc hB _) (by have := HL.out; simp; omega) (by simp) ?_; intro v' w' ho hg ha)))
      refine bodyPost_ret (results_tmp4 rfl _ _ _) rfl ?_
      exact PartR.data HP.out (by simpa using ho) (((Below.refl _ _).alloc (Nat.le_refl _) _).grown hg (by simp) (by simp [Value.ownBlock])) (by omega)
    · have HP := Lib.hid (show part l p 2 = none by simp [part, h, hx])
      have hx1 : ¬ ((x : Int) ≤ (l.length : Int) - (p + n)) := by omega
      clear h
      go_enter Try.func37, Try.ntmps37
      go_wp2_with (go_at_call 15; refine (rdvar_at HR hcap hm' hb).mono ?_; rintro e w' ⟨rfl, rfl⟩)
      refine bodyPost_ret (results_tmp4 rfl _ _ _) rfl ?_
      exact PartR.none_ HP.out

set_option maxRecDepth 100000 in
set_option maxHeartbeats 400000 in
theorem partx (A : Option Addr) (cap : Nat) (l : List UInt8) (p : Nat) (wire : Nat) (w : World) (h0 : wire ≠ 0) (h1 : wire ≠ 1) (h2 : wire ≠ 2) (h5 : wire ≠ 5) :
    Calls Try.prog 37 #[.slice A l.length cap, .int .i64 p, .int .i64 wire] w (PartR w (part l p wire)) := by
  have HP := Lib.hid (show part l p wire = none by simp [part, h0, h1, h2, h5])
  have e0 : ((wire : Int) == 0) = false := by simp; omega
  have e1 : ((wire : Int) == 1) = false := by rw [beq_eq_false_iff_ne]; omega
  have e2 : ((wire : Int) == 2) = false := by rw [beq_eq_false_iff_ne]; omega
  have e5 : ((wire : Int) == 5) = false := by rw [beq_eq_false_iff_ne]; omega
  go_enter Try.func37, Try.ntmps37
  go_wp2
  refine bodyPost_ret (results_tmp4 rfl _ _ _) rfl ?_
  exact PartR.none_ HP.out

theorem part_any (B : Nat) (A : Option Addr) (cap : Nat) (l : List UInt8) (p : Nat) (wire : Nat) (w : World) (hp : p ≤ l.length) (hcap : l.length ≤ cap) (hm : cap ≤ maxLen) (hb : RB w B A l) (hB : B ≤ w.heap.size) (h47 : l.length ≤ 140737488355328) :
    Calls Try.prog 37 #[.slice A l.length cap, .int .i64 p, .int .i64 wire] w (PartR w (part l p wire)) := by
  by_cases h0 : wire = 0
  · subst h0; exact part0 B A cap l p w hp hcap hm hb
  by_cases h1 : wire = 1
  · subst h1; exact part1 B A cap l p w hp hcap hm hb
  by_cases h2 : wire = 2
  · subst h2; exact part2 B A cap l p w hp hcap hm hb hB h47
  by_cases h5 : wire = 5
  · subst h5; exact part5 B A cap l p w hp hcap hm hb
  exact partx A cap l p wire w h0 h1 h2 h5
end Go.Proofs.Ythhanpfcnaokpaa
