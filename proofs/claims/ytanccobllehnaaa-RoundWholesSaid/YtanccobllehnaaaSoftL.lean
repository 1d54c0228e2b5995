/- The shell that the statements of this seat share. -/
import Derived.Test.YtanccobllehnaaaSoftC
import Derived.ProofKit
import Derived.OpenShut
import Derived.ChangeOld
import Derived.SizedLaws
namespace Go.Proofs.Ytanccobllehnaaa
open Go.ChangeShapes Go.WideShapes Go.ChangeAt Go.RowKit
theorem own : ownKnob Try.prog.godebug = none := by kernel_rfl
theorem laidOut : laidOutB Try.prog = true := by kernel_rfl
theorem u32_nat {n : Int} (h : (Lit.int .u32 n).wf = true) : ∃ x : Nat, n = x ∧ Hid (x < 4294967296) := by
  have hb := bounds_u32 h
  obtain ⟨x, rfl⟩ := Int.eq_ofNat_of_zero_le hb.1
  exact ⟨x, rfl, Lib.hid (by omega)⟩
section
variable {way : Int} {a b r : Nat} {w : World} (h : Hid (a < 4294967296)) (h' : Hid (b < 4294967296))
include h h'
theorem add_at (hr : Hid (addP way a b = r)) : Calls Try.prog 39 #[.int .i64 way, .int .u32 (a : Int), .int .u32 (b : Int)] w fun e w' => e = .returned (.int .u32 (r : Int)) ∧ Below w.heap.size w w' := by
  have := add_any way a b w h h'
  rw [hr.out] at this
  exact this
theorem mul_at (hr : Hid (mulP way a b = r)) : Calls Try.prog 35 #[.int .i64 way, .int .u32 (a : Int), .int .u32 (b : Int)] w fun e w' => e = .returned (.int .u32 (r : Int)) ∧ Below w.heap.size w w' := by
  have := mul_any way a b w h h'
  rw [hr.out] at this
  exact this
end
theorem inf_at {a : Nat} {b : Bool} {w : World} (h : Hid (a < 4294967296)) (hb : Hid (infP a = b)) : Calls Try.prog 34 #[.int .u32 (a : Int)] w fun e w' => e = .returned (.bool b) ∧ w' = w := by
  have := inf_any a w h.out
  rw [hb.out] at this
  exact this
end Go.Proofs.Ytanccobllehnaaa
