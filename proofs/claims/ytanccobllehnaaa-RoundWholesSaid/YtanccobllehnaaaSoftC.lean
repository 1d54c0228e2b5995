/- The contracts of Add, Sub, Mul, Div, and of the statements' own examples. -/
import Derived.Test.YtanccobllehnaaaSoftA
import Derived.Test.YtanccobllehnaaaSoftD
namespace Go.Proofs.Ytanccobllehnaaa
open Go.RowKit

def BR (w : World) (r : Nat) (e : Ending) (w' : World) : Prop := e = .returned (.int .u32 (r : Int)) ∧ Below w.heap.size w w'
theorem neg_lt {a : Nat} (h : a < 4294967296) : negP a < 4294967296 := by unfold negP; split <;> omega
theorem mul0_any (a b : Nat) (w : World) (h : Hid (a < 4294967296)) (h' : Hid (b < 4294967296)) :
    Calls Try.prog 32 #[.int .u32 (a : Int), .int .u32 (b : Int)] w (BR w (mulP 0 a b)) := by
  go_enter Try.func32, Try.ntmps32
  go_wp2_with fail
  refine (mul_any 0 a b _ h h').mono ?_
  rintro e w' ⟨rfl, hb⟩
  go_wp2
  go_ret
  exact ⟨rfl, hb⟩
end Go.Proofs.Ytanccobllehnaaa
