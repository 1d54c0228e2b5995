/- The contracts of the document's Add, Sub, Mul, Div. -/
import Derived.Test.YtkdlkjoeoahfpaaRefM
import Derived.Test.YtkdlkjoeoahfpaaRefD
import Derived.Test.YtkdlkjoeoahfpaaRefA
namespace Go.Proofs.Ytkdlkjoeoahfpaa
open Go.RowKit

theorem radd0_any (a b : Nat) (w : World) (h : Hid (a < 4294967296)) (h' : Hid (b < 4294967296)) : Calls Try.prog 28 #[.int .u32 (a : Int), .int .u32 (b : Int)] w (BR w (addP 0 a b)) := by
  go_enter Try.func28, Try.ntmps28
  go_wp2_with fail
  refine (radd_any 0 a b _ h h').mono ?_
  rintro e w' ⟨rfl, hb⟩
  go_wp2
  go_ret
  exact ⟨rfl, hb⟩
theorem rmul0_any (a b : Nat) (w : World) (h : Hid (a < 4294967296)) (h' : Hid (b < 4294967296)) : Calls Try.prog 25 #[.int .u32 (a : Int), .int .u32 (b : Int)] w (BR w (mulP 0 a b)) := by
  go_enter Try.func25, Try.ntmps25
  go_wp2_with fail
  refine (rmul_any 0 a b _ h h').mono ?_
  rintro e w' ⟨rfl, hb⟩
  go_wp2
  go_ret
  exact ⟨rfl, hb⟩
theorem rdiv0_any (a b : Nat) (w : World) (h : Hid (a < 4294967296)) (h' : Hid (b < 4294967296)) : Calls Try.prog 19 #[.int .u32 (a : Int), .int .u32 (b : Int)] w (BR w (divP 0 a b)) := by
  go_enter Try.func19, Try.ntmps19
  go_wp2_with fail
  refine (rdiv_any 0 a b _ h h').mono ?_
  rintro e w' ⟨rfl, hb⟩
  go_wp2
  go_ret
  exact ⟨rfl, hb⟩
theorem rsub0_any (a b : Nat) (w : World) (h : Hid (a < 4294967296)) (h' : Hid (b < 4294967296)) : Calls Try.prog 30 #[.int .u32 (a : Int), .int .u32 (b : Int)] w (BR w (addP 0 a (negP b))) := by
  go_enter Try.func30, Try.ntmps30
  go_wp2_with fail
  refine (rneg_any b _ h').mono ?_
  rintro e w' ⟨rfl, rfl⟩
  go_wp2_with fail
  refine (radd_any 0 a (negP b) _ h (Lib.hid (neg_lt h'.out))).mono ?_
  rintro e w' ⟨rfl, hb⟩
  go_wp2
  go_ret
  exact ⟨rfl, hb⟩
end Go.Proofs.Ytkdlkjoeoahfpaa
