/- Contracts of the statements' own helpers: lent, whole, same. -/
import Derived.Test.YthhanpfcnaokpaaRRead
namespace Go.Proofs.Ythhanpfcnaokpaa
open Go.RowKit

/-- a call that asks at most the tape, in a region that has asked it already -/
theorem quiet_says {f : FuncId} {args : Array Value} {w : World} {b : Bool} {a n : Nat} (h : Calls Try.prog f args (w.drewN (a + n)) (SaysQ (w.drewN (a + n)) b)) :
    Calls Try.prog f args (w.drewN (a + n)) fun e w'' => e = .returned (.bool b) ∧ ∃ m, w'' = w.drewN (a + m) :=
  h.mono fun _ _ ⟨he, m, hm⟩ => ⟨he, n + m, by rw [hm, World.drewN_drewN, Nat.add_assoc]⟩
theorem quiet_says0 {f : FuncId} {args : Array Value} {w : World} {b : Bool} {n : Nat} (h : Calls Try.prog f args (w.drewN n) (SaysQ (w.drewN n) b)) :
    Calls Try.prog f args (w.drewN n) fun e w'' => e = .returned (.bool b) ∧ ∃ m, w'' = w.drewN m :=
  h.mono fun _ _ ⟨he, m, hm⟩ => ⟨he, n + m, by rw [hm, World.drewN_drewN]⟩
theorem sameb_eq {B B' : Nat} {A A' : Option Addr} {cap cap' : Nat} {a : List UInt8} {w : World} (ha : RB w B A a) (hb : RB w B' A' a) (hm : a.length ≤ maxLen) :
    Calls Try.prog 17 #[.slice A a.length cap, .slice A' a.length cap'] w (SaysQ w true) := by
  have h := sameb_any (max B B') A A' cap cap' a a w (ha.more (Nat.le_max_left _ _)) (hb.more (Nat.le_max_right _ _)) hm hm
  simpa using h

/-- the loop of same -/
def SMrel (fs : List Fld) (w : World) (i : Value) (wr : World) : Prop := ∃ k n : Nat, k ≤ fs.length ∧ i = .int .i64 (k : Int) ∧ wr = w.drewN n

set_option maxRecDepth 100000 in
set_option maxHeartbeats 800000 in
theorem same_eq (B B' : Nat) (A A' : Option Addr) (cap cap' : Nat) (fs : List Fld) (w : World) (ha : RF w B A fs) (hb : RF w B' A' fs) (hm : fs.length ≤ maxLen) :
    Calls Try.prog 22 #[.slice A fs.length cap, .slice A' fs.length cap'] w (SaysQ w true) := by
  unfold maxLen at hm
  go_enter Try.func22, Try.ntmps22
  go_wp2
  go_loopw [5] (fun i wr => SMrel fs w i wr) (fun i _ => fs.length - (intOf i).toNat)
  case atStart => exact ⟨0, 0, Nat.zero_le _, rfl, rfl⟩
  case round =>
    obtain ⟨k, n, hk, rfl, rfl⟩ := hrel
    by_cases hlt : k < fs.length
    · obtain ⟨ba, oa, dva, rfl, -, hdva, a0, a1, a2, a3⟩ := ha.at_ hlt
      obtain ⟨bb, ob, dvb, rfl, -, hdvb, b0, b1, b2, b3⟩ := hb.at_ hlt
      have hly : (k : Int) < (fs.length : Int) := by omega
      obtain ⟨Aa, ca, rfl, hla, hma, hra⟩ := hdva
      obtain ⟨Ab, cb, rfl, hlb, hmb, hrb⟩ := hdvb
      generalize fs[k] = f at *
      obtain ⟨num, wire, x, data⟩ := f
      go_wp2
      go_quiet ((go_at_call 17; exact quiet_says (sameb_eq hra hrb (by omega))))
      go_wp2
      go_roundw
      case rel => exact ⟨k + 1, _, by omega, by go_num, rfl⟩
      case measure => simp [intOf]; omega
    · go_wp2
      go_ret
      exact ⟨rfl, n, rfl⟩

/-- a cut from the head -/
theorem run_cut_to (w : World) (a : Option Addr) (len cap : Nat) (kh : IntKind) (h : Int) (h0 : 0 ≤ h) (h2 : h ≤ cap) :
    (Instr.slice 24 (.slice a len cap) none (some (.int kh h)) none).run Try.prog w = .ok (.slice a h.toNat cap) w := by
  rw [run_slice_h w _ a len cap und_bytes kh h h0 h2, size_u8]
  have hz : (a.map fun x => x.add 0) = a := by cases a <;> simp [Addr.add]
  by_cases hc : cap = 0
  · simp [Result.andThen, sliced, hc]
  · simp [Result.andThen, sliced, hc, hz]
attribute [local go_sem high] run_cut_to

set_option maxHeartbeats 400000 in
theorem lent_any (A : Option Addr) (cap : Nat) (l : List UInt8) (w : World) (hb : RB w w.heap.size A l) (h47 : l.length + 2 ≤ 140737488355328) :
    Calls Try.prog 14 #[.slice A l.length cap] w fun e w' => ∃ v, e = .returned (v l.length) ∧ OB w' w.heap.size (v (l.length + 2)) (l ++ [201, 202]) ∧ (∃ A' cap', v = fun n => .slice A' n cap') ∧ Below w.heap.size w w' := by
  go_enter Try.func14, Try.ntmps14
  go_wp2_with (first
    | (at_builtin; refine append_bytes rfl _ _ rfl (OB.made w w.heap.size (Nat.le_refl _)) rfl l rfl rfl (hb.alloc (Nat.le_refl _) _) (by simp; omega) (by simp) ?_; intro v1 w1 ho1 hg1 ha1
       have hb1 : Below w.heap.size w w1 := ((Below.refl _ _).alloc (Nat.le_refl _) _).grown hg1 (by simp) (by simp [Value.ownBlock]))
    | (at_builtin
       have hr : RB (w1.alloc (.cells #[.int .u8 201, .int .u8 202] 5)) (w1.heap.size + 1) (some ⟨w1.heap.size, 0, none⟩) [201, 202] := Reads.new_ w1 5 (byt [201, 202]) 1 2 rfl
       go_must (refine append_bytes rfl _ _ rfl (ho1.alloc _) rfl [201, 202] rfl rfl hr (by simp; omega) (by have := hb1.size; simp; omega) ?_; intro v2 w2 ho2 hg2 ha2)
       obtain ⟨A2, c2, rfl, hl2, hm2, -⟩ := ho2.form
       have hk : 0 ≤ (l.length : Int) := by omega
       have hk2 : (l.length : Int) ≤ (c2 : Int) := by simp at hl2; omega))
  go_ret
  refine ⟨fun n => .slice A2 n c2, rfl, by simpa using ho2, ⟨A2, c2, rfl⟩, ?_⟩
  exact (hb1.alloc hb1.size _).grown hg2 (by have := hb1.size; simp; omega) (fun k hk => (ho1.lt k hk).1)

set_option maxHeartbeats 400000 in
theorem whole_true (B B' : Nat) (A A' : Option Addr) (cap cap' : Nat) (l : List UInt8) (w : World) (ha : RB w B A (l ++ [201, 202])) (hb : RB w B' A' l) (hm : cap ≤ maxLen) (hcap : l.length + 2 ≤ cap) :
    Calls Try.prog 19 #[.slice A l.length cap, .slice A' l.length cap'] w (SaysQ w true) := by
  unfold maxLen at hm
  have ht : RB w B A l := by have := ha.take l.length; simpa using this
  obtain ⟨b, off, hA, -, c1⟩ := ha.at_ (k := l.length) (by simp)
  obtain ⟨b', off', hA', -, c2⟩ := ha.at_ (k := l.length + 1) (by simp)
  rw [hA] at hA'
  simp only [Option.some.injEq, Addr.mk.injEq, and_true] at hA'
  obtain ⟨rfl, rfl⟩ := hA'
  subst hA
  have d1 : w.cell? ⟨b, off + l.length, none⟩ = some (.int .u8 201) := by simpa using c1
  have d2 : w.cell? ⟨b, off + (l.length + 1), none⟩ = some (.int .u8 202) := by simpa using c2
  clear c1 c2
  have hk : 0 ≤ (l.length : Int) + 2 := by omega
  have hk2 : (l.length : Int) + 2 ≤ (cap : Int) := by omega
  go_enter Try.func19, Try.ntmps19
  go_wp2_with (go_at_call 17; go_must (refine (sameb_eq ht hb (by unfold maxLen; omega)).mono ?_); rintro e w1 ⟨rfl, n1, rfl⟩)
  go_ret
  exact ⟨rfl, n1, rfl⟩
end Go.Proofs.Ythhanpfcnaokpaa
