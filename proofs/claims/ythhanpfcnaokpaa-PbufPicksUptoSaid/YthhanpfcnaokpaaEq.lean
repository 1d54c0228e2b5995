/- The contract of equal: fields alike. -/
import Derived.Test.YthhanpfcnaokpaaSame
namespace Go.Proofs.Ythhanpfcnaokpaa
open Go.RowKit

def EQrel (fs : List Fld) (w : World) (i : Value) (wr : World) : Prop := ∃ k n : Nat, k ≤ fs.length ∧ i = .int .i64 (k : Int) ∧ wr = w.drewN n

set_option maxRecDepth 100000 in
set_option maxHeartbeats 800000 in
theorem equal_eq (B B' : Nat) (A A' : Option Addr) (cap cap' : Nat) (fs : List Fld) (w : World) (ha : RF w B A fs) (hb : RF w B' A' fs) (hm : fs.length ≤ maxLen) :
    Calls Try.prog 26 #[.slice A fs.length cap, .slice A' fs.length cap'] w (SaysQ w true) := by
  unfold maxLen at hm
  go_enter Try.func26, Try.ntmps26
  go_wp2
  go_loopw [5] (fun i wr => EQrel fs w i wr) (fun i _ => fs.length - (intOf i).toNat)
  case atStart => exact ⟨0, 0, Nat.zero_le _, rfl, rfl⟩
  case round =>
    obtain ⟨k, n, hk, rfl, rfl⟩ := hrel
    by_cases hlt : k < fs.length
    · obtain ⟨ba, oa, dva, rfl, -, hdva, a0, a1, a2, a3⟩ := ha.at_ hlt
      obtain ⟨bb, ob, dvb, rfl, -, hdvb, b0, b1, b2, b3⟩ := hb.at_ hlt
      have hly : (k : Int) < (fs.length : Int) := by omega
      obtain ⟨Aa, ca, rfl, hla, hma, hra⟩ := hdva
      obtain ⟨Ab, cb, rfl, hlb, hmb, hrb⟩ := hdvb
      generalize fs[k] = f at *
      obtain ⟨num, wire, x, data⟩ := f
      go_wp2
      go_quiet ((go_at_call 17; exact quiet_says (sameb_eq hra hrb (by omega))))
      go_wp2
      go_roundw
      case rel => exact ⟨k + 1, _, by omega, by go_num, rfl⟩
      case measure => simp [intOf]; omega
    · go_wp2
      go_ret
      exact ⟨rfl, n, rfl⟩

theorem equal_n {B B' : Nat} {A A' : Option Addr} {cap cap' n n' : Nat} {fs : List Fld} {w : World} (ha : RF w B A fs) (hb : RF w B' A' fs) (hn : n = fs.length) (hn' : n' = fs.length) (hm : fs.length ≤ maxLen) :
    Calls Try.prog 26 #[.slice A n cap, .slice A' n' cap'] w (SaysQ w true) := by
  subst hn hn'
  exact equal_eq _ _ _ _ _ _ _ _ ha hb hm
end Go.Proofs.Ythhanpfcnaokpaa
