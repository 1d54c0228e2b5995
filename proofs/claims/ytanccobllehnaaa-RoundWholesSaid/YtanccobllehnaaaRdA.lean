/- The shell that the statements of layer 2 share: their own examples. -/
import Derived.Test.YtanccobllehnaaaRdF
import Derived.Test.YtanccobllehnaaaRdL
import Derived.ProofKit
import Derived.OpenShut
import Derived.ChangeOld
import Derived.SizedLaws
namespace Go.Proofs.Ytanccobllehnaaa
open Go.ChangeShapes Go.WideShapes Go.ChangeAt Go.RowKit

theorem fma0_any (a b c : Nat) (w : World) (h1 : Hid (a < 4294967296)) (h2 : Hid (b < 4294967296)) (h3 : Hid (c < 4294967296)) :
    Calls Try.prog 14 #[.int .u32 (a : Int), .int .u32 (b : Int), .int .u32 (c : Int)] w (BR w (fmaP 0 a b c)) := by
  go_enter Try.func14, Try.ntmps14
  go_wp2_with fail
  refine (fma_any 0 a b c _ h1 h2 h3).mono ?_
  rintro e w' ⟨rfl, hb⟩
  go_wp2
  go_ret
  exact ⟨rfl, hb⟩
theorem sqrt_two : sqrtP 0 1073741824 = 1068827891 := by
  have h : rt 2305843009213693952 = 1518500249 := rt_eq (by decide) (by decide) (by decide)
  have h1 : roundP 0 false (-30) 1518500249 (decide (1518500249 * 1518500249 ≠ 2305843009213693952)) = 1068827891 := by kernel_rfl
  have hs : oS 1073741824 = 8388608 := by kernel_rfl
  have he : oE 1073741824 = -22 := by kernel_rfl
  have hk : sqK 8388608 (-22) = 38 := by kernel_rfl
  have hh : sqH 8388608 (-22) = -30 := by kernel_rfl
  have hn : 8388608 * two 38 = 2305843009213693952 := by kernel_rfl
  have h0 : sqrtP 0 1073741824 = sqM 0 (oS 1073741824) (oE 1073741824) := by
    unfold sqrtP
    rw [if_neg (by decide), if_neg (by decide), if_neg (by decide), if_neg (by decide)]
  rw [h0, hs, he, sqM, hk, hh, hn, h]
  exact h1
set_option maxRecDepth 100000 in
theorem rawake_any (w : World) : Calls Try.prog 11 #[] w fun e w' => e = .returned (.bool true) ∧ Below w.heap.size w w' := by
  have e1 : fmaP 0 1065353217 1065353217 3212836866 = 679477248 := by kernel_rfl
  have e2 := sqrt_two
  have e3 : fromP 0 16777217 = 1266679808 := by kernel_rfl
  have e4 : toIntP 3223322624 = -2 := by kernel_rfl
  have e5 : wholeP 2 1075838976 = 1073741824 := by kernel_rfl
  have e6 : wholeP 1 3204448256 = 2147483648 := by kernel_rfl
  have e7 : scaleP 1069547520 (-150) = 1 := by kernel_rfl
  have E1 := Lib.hid e1
  have E2 := Lib.hid e2
  have E3 := Lib.hid e3
  have E4 := Lib.hid e4
  have E5 := Lib.hid e5
  have E6 := Lib.hid e6
  have E7 := Lib.hid e7
  clear e1 e2 e3 e4 e5 e6 e7
  go_enter Try.func11, Try.ntmps11
  have hB0 := Below.refl w.heap.size w
  have hz0 := hB0.size
  go_wp2_with fail
  refine (fma0_any 1065353217 1065353217 3212836866 _ (Lib.hid (by decide)) (Lib.hid (by decide)) (Lib.hid (by decide))).mono ?_
  rintro e w1 ⟨rfl, hC⟩
  rw [E1.out]
  have hB1 := hB0.trans (hC.mono hz0)
  have hz1 := hB1.size
  clear hC
  go_wp2_with fail
  refine (sqrt0_any 1073741824 _ (Lib.hid (by decide))).mono ?_
  rintro e w2 ⟨rfl, hC⟩
  rw [E2.out]
  have hB2 := hB1.trans (hC.mono hz1)
  have hz2 := hB2.size
  clear hC
  go_wp2_with fail
  refine (from0_any 16777217 _ (by decide)).mono ?_
  rintro e w' ⟨rfl, rfl⟩
  rw [E3.out]
  go_wp2_with fail
  refine (toint_any 3223322624 _ (Lib.hid (by decide))).mono ?_
  rintro e w3 ⟨rfl, hC⟩
  rw [E4.out]
  have hB3 := hB2.trans (hC.mono hz2)
  have hz3 := hB3.size
  clear hC
  go_wp2_with fail
  refine (even_any 1075838976 _ (Lib.hid (by decide))).mono ?_
  rintro e w4 ⟨rfl, hC⟩
  rw [E5.out]
  have hB4 := hB3.trans (hC.mono hz3)
  have hz4 := hB4.size
  clear hC
  go_wp2_with fail
  refine (ceil_any 3204448256 _ (Lib.hid (by decide))).mono ?_
  rintro e w5 ⟨rfl, hC⟩
  rw [E6.out]
  have hB5 := hB4.trans (hC.mono hz4)
  have hz5 := hB5.size
  clear hC
  go_wp2_with fail
  refine (scale_any 1069547520 (-150) _ (Lib.hid (by decide))).mono ?_
  rintro e w6 ⟨rfl, hC⟩
  rw [E7.out]
  have hB6 := hB5.trans (hC.mono hz5)
  clear hC
  go_wp2
  go_ret
  exact ⟨rfl, hB6⟩
end Go.Proofs.Ytanccobllehnaaa
