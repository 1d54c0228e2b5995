/- The contracts of Add, Sub, Mul, Div, and of the statements' own examples. -/
import Derived.Test.YtkdlkjoeoahfpaaSoftA
import Derived.Test.YtkdlkjoeoahfpaaSoftD
namespace Go.Proofs.Ytkdlkjoeoahfpaa
open Go.RowKit

def BR (w : World) (r : Nat) (e : Ending) (w' : World) : Prop := e = .returned (.int .u32 (r : Int)) ∧ Below w.heap.size w w'
theorem add0_any (a b : Nat) (w : World) (h : Hid (a < 4294967296)) (h' : Hid (b < 4294967296)) :
    Calls Try.prog 27 #[.int .u32 (a : Int), .int .u32 (b : Int)] w (BR w (addP 0 a b)) := by
  go_enter Try.func27, Try.ntmps27
  go_wp2_with fail
  refine (add_any 0 a b _ h h').mono ?_
  rintro e w' ⟨rfl, hb⟩
  go_wp2
  go_ret
  exact ⟨rfl, hb⟩
theorem neg_lt {a : Nat} (h : a < 4294967296) : negP a < 4294967296 := by unfold negP; split <;> omega
theorem sub0_any (a b : Nat) (w : World) (h : Hid (a < 4294967296)) (h' : Hid (b < 4294967296)) :
    Calls Try.prog 29 #[.int .u32 (a : Int), .int .u32 (b : Int)] w (BR w (addP 0 a (negP b))) := by
  go_enter Try.func29, Try.ntmps29
  go_wp2_with fail
  refine (neg_any b _ h'.out).mono ?_
  rintro e w' ⟨rfl, rfl⟩
  go_wp2_with fail
  refine (add_any 0 a (negP b) _ h (Lib.hid (neg_lt h'.out))).mono ?_
  rintro e w' ⟨rfl, hb⟩
  go_wp2
  go_ret
  exact ⟨rfl, hb⟩
theorem mul0_any (a b : Nat) (w : World) (h : Hid (a < 4294967296)) (h' : Hid (b < 4294967296)) :
    Calls Try.prog 24 #[.int .u32 (a : Int), .int .u32 (b : Int)] w (BR w (mulP 0 a b)) := by
  go_enter Try.func24, Try.ntmps24
  go_wp2_with fail
  refine (mul_any 0 a b _ h h').mono ?_
  rintro e w' ⟨rfl, hb⟩
  go_wp2
  go_ret
  exact ⟨rfl, hb⟩
theorem div0_any (a b : Nat) (w : World) (h : Hid (a < 4294967296)) (h' : Hid (b < 4294967296)) :
    Calls Try.prog 18 #[.int .u32 (a : Int), .int .u32 (b : Int)] w (BR w (divP 0 a b)) := by
  go_enter Try.func18, Try.ntmps18
  go_wp2_with fail
  refine (div_any 0 a b _ h h').mono ?_
  rintro e w' ⟨rfl, hb⟩
  go_wp2
  go_ret
  exact ⟨rfl, hb⟩

set_option maxRecDepth 100000 in
theorem awake_any (w : World) : Calls Try.prog 13 #[] w fun e w' => e = .returned (.bool true) ∧ Below w.heap.size w w' := by
  have e1 : addP 0 1065353217 864026624 = 1065353218 := by kernel_rfl
  have e2 : addP 2 1065353216 2147483649 = 1065353215 := by kernel_rfl
  have e3 : divP 0 1065353216 1077936128 = 1051372203 := by kernel_rfl
  have e4 : mulP 1 1 1056964608 = 1 := by kernel_rfl
  have e5 : roundP 0 false 0 16777217 true = 1266679809 := by kernel_rfl
  have e6 : lessP 3212836864 1 = true := by kernel_rfl
  go_enter Try.func13, Try.ntmps13
  go_wp2_with fail
  refine (add0_any 1065353217 864026624 _ (Lib.hid (by decide)) (Lib.hid (by decide))).mono ?_
  rintro e w1 ⟨rfl, hb1⟩
  rw [e1]
  go_wp2_with fail
  refine (add_any 2 1065353216 2147483649 _ (Lib.hid (by decide)) (Lib.hid (by decide))).mono ?_
  rintro e w2 ⟨rfl, hb2⟩
  rw [e2]
  go_wp2_with fail
  refine (div0_any 1065353216 1077936128 _ (Lib.hid (by decide)) (Lib.hid (by decide))).mono ?_
  rintro e w3 ⟨rfl, hb3⟩
  rw [e3]
  go_wp2_with fail
  refine (mul_any 1 1 1056964608 _ (Lib.hid (by decide)) (Lib.hid (by decide))).mono ?_
  rintro e w4 ⟨rfl, hb4⟩
  rw [e4]
  go_wp2_with fail
  refine (round_any 0 false 0 16777217 true _ (by decide) (by decide)).mono ?_
  rintro e w5 ⟨rfl, rfl⟩
  rw [e5]
  go_wp2_with fail
  refine (less_any 3212836864 1 _ (by decide) (by decide)).mono ?_
  rintro e w6 ⟨rfl, rfl⟩
  rw [e6]
  go_wp2
  go_ret
  exact ⟨rfl, ((hb1.trans (hb2.mono hb1.size)).trans (hb3.mono (by have := hb1.size; have := hb2.size; omega))).trans (hb4.mono (by have := hb1.size; have := hb2.size; have := hb3.size; omega))⟩
end Go.Proofs.Ytkdlkjoeoahfpaa
