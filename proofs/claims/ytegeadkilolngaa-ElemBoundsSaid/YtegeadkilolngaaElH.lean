/- The awake of layer 3. -/
import Derived.Test.YtegeadkilolngaaElF
import Derived.Test.YtegeadkilolngaaElG
namespace Go.Proofs.Ytegeadkilolngaa
open Go.RowKit

set_option maxRecDepth 100000
theorem wake1 : expP 0 = 1065353216 := by kernel_rfl
theorem wake2 : expP 2139095040 = 2139095040 := by kernel_rfl
theorem wake3 : expP 4286578688 = 0 := by kernel_rfl
theorem wake4 : expP 2139095041 = 2143289344 := by kernel_rfl
theorem wake5 : logP 1065353216 = 0 := by kernel_rfl
theorem wake6 : logP 2147483648 = 4286578688 := by kernel_rfl
theorem wake7 : logP 3212836864 = 2143289344 := by kernel_rfl
theorem wake8 : logP 2139095040 = 2139095040 := by kernel_rfl
theorem wake9 : circP 0 0 = 0 := by kernel_rfl
theorem wake10 : circP 0 1 = 1065353216 := by kernel_rfl
theorem wake11 : circP 2139095040 0 = 2143289344 := by kernel_rfl
theorem wake12 : tanhP 2147483648 = 2147483648 := by kernel_rfl
theorem wake13 : tanhP 4286578688 = 3212836864 := by kernel_rfl
theorem wake14 : erfP 1092616192 = 1065353216 := by kernel_rfl
theorem wake15 : sigmP 0 = 1056964608 := by kernel_rfl
theorem wake16 : sigmP 4286578688 = 0 := by kernel_rfl
theorem wake17 : powP 2143289344 0 = 1065353216 := by kernel_rfl
theorem wake18 : powP 1065353216 2143289344 = 1065353216 := by kernel_rfl
theorem wake19 : powP 3212836864 2139095040 = 1065353216 := by kernel_rfl
theorem wake20 : powP 3212836864 1056964608 = 2143289344 := by kernel_rfl
theorem wake21 : powP 0 3212836864 = 2139095040 := by kernel_rfl

set_option maxRecDepth 100000 in
set_option maxHeartbeats 3200000 in
theorem eawake_any (w : World) : Calls Try.prog 6 #[] w fun e w' => e = .returned (.bool true) ∧ Below w.heap.size w w' := by
  go_enter Try.func6, Try.ntmps6
  have hB0 := Below.refl w.heap.size w
  have hz0 := hB0.size
  go_wp2_with fail
  refine (exp_at (Lib.hid (by decide)) (Lib.hid wake1)).mono ?_
  rintro e' W1 ⟨rfl, hC⟩
  have hB1 := hB0.trans (hC.mono hz0)
  have hz1 := hB1.size
  clear hC hB0 hz0
  go_wp2_with fail
  refine (exp_at (Lib.hid (by decide)) (Lib.hid wake2)).mono ?_
  rintro e' W2 ⟨rfl, hC⟩
  have hB2 := hB1.trans (hC.mono hz1)
  have hz2 := hB2.size
  clear hC hB1 hz1
  go_wp2_with fail
  refine (exp_at (Lib.hid (by decide)) (Lib.hid wake3)).mono ?_
  rintro e' W3 ⟨rfl, hC⟩
  have hB3 := hB2.trans (hC.mono hz2)
  have hz3 := hB3.size
  clear hC hB2 hz2
  go_wp2_with fail
  refine (exp_at (Lib.hid (by decide)) (Lib.hid wake4)).mono ?_
  rintro e' W4 ⟨rfl, hC⟩
  have hB4 := hB3.trans (hC.mono hz3)
  have hz4 := hB4.size
  clear hC hB3 hz3
  go_wp2_with fail
  refine (log_at (Lib.hid (by decide)) (Lib.hid wake5)).mono ?_
  rintro e' W5 ⟨rfl, hC⟩
  have hB5 := hB4.trans (hC.mono hz4)
  have hz5 := hB5.size
  clear hC hB4 hz4
  go_wp2_with fail
  refine (log_at (Lib.hid (by decide)) (Lib.hid wake6)).mono ?_
  rintro e' W6 ⟨rfl, hC⟩
  have hB6 := hB5.trans (hC.mono hz5)
  have hz6 := hB6.size
  clear hC hB5 hz5
  go_wp2_with fail
  refine (log_at (Lib.hid (by decide)) (Lib.hid wake7)).mono ?_
  rintro e' W7 ⟨rfl, hC⟩
  have hB7 := hB6.trans (hC.mono hz6)
  have hz7 := hB7.size
  clear hC hB6 hz6
  go_wp2_with fail
  refine (log_at (Lib.hid (by decide)) (Lib.hid wake8)).mono ?_
  rintro e' W8 ⟨rfl, hC⟩
  have hB8 := hB7.trans (hC.mono hz7)
  have hz8 := hB8.size
  clear hC hB7 hz7
  go_wp2_with fail
  refine (sin_at (Lib.hid (by decide)) (Lib.hid wake9)).mono ?_
  rintro e' W9 ⟨rfl, hC⟩
  have hB9 := hB8.trans (hC.mono hz8)
  have hz9 := hB9.size
  clear hC hB8 hz8
  go_wp2_with fail
  refine (cos_at (Lib.hid (by decide)) (Lib.hid wake10)).mono ?_
  rintro e' W10 ⟨rfl, hC⟩
  have hB10 := hB9.trans (hC.mono hz9)
  have hz10 := hB10.size
  clear hC hB9 hz9
  go_wp2_with fail
  refine (sin_at (Lib.hid (by decide)) (Lib.hid wake11)).mono ?_
  rintro e' W11 ⟨rfl, hC⟩
  have hB11 := hB10.trans (hC.mono hz10)
  have hz11 := hB11.size
  clear hC hB10 hz10
  go_wp2_with fail
  refine (tanh_at (Lib.hid (by decide)) (Lib.hid wake12)).mono ?_
  rintro e' W12 ⟨rfl, hC⟩
  have hB12 := hB11.trans (hC.mono hz11)
  have hz12 := hB12.size
  clear hC hB11 hz11
  go_wp2_with fail
  refine (tanh_at (Lib.hid (by decide)) (Lib.hid wake13)).mono ?_
  rintro e' W13 ⟨rfl, hC⟩
  have hB13 := hB12.trans (hC.mono hz12)
  have hz13 := hB13.size
  clear hC hB12 hz12
  go_wp2_with fail
  refine (erf_at (Lib.hid (by decide)) (Lib.hid wake14)).mono ?_
  rintro e' W14 ⟨rfl, hC⟩
  have hB14 := hB13.trans (hC.mono hz13)
  have hz14 := hB14.size
  clear hC hB13 hz13
  go_wp2_with fail
  refine (sigm_at (Lib.hid (by decide)) (Lib.hid wake15)).mono ?_
  rintro e' W15 ⟨rfl, hC⟩
  have hB15 := hB14.trans (hC.mono hz14)
  have hz15 := hB15.size
  clear hC hB14 hz14
  go_wp2_with fail
  refine (sigm_at (Lib.hid (by decide)) (Lib.hid wake16)).mono ?_
  rintro e' W16 ⟨rfl, hC⟩
  have hB16 := hB15.trans (hC.mono hz15)
  have hz16 := hB16.size
  clear hC hB15 hz15
  go_wp2_with fail
  refine (pow_at (Lib.hid (by decide)) (Lib.hid (by decide)) (Lib.hid wake17)).mono ?_
  rintro e' W17 ⟨rfl, hC⟩
  have hB17 := hB16.trans (hC.mono hz16)
  have hz17 := hB17.size
  clear hC hB16 hz16
  go_wp2_with fail
  refine (pow_at (Lib.hid (by decide)) (Lib.hid (by decide)) (Lib.hid wake18)).mono ?_
  rintro e' W18 ⟨rfl, hC⟩
  have hB18 := hB17.trans (hC.mono hz17)
  have hz18 := hB18.size
  clear hC hB17 hz17
  go_wp2_with fail
  refine (pow_at (Lib.hid (by decide)) (Lib.hid (by decide)) (Lib.hid wake19)).mono ?_
  rintro e' W19 ⟨rfl, hC⟩
  have hB19 := hB18.trans (hC.mono hz18)
  have hz19 := hB19.size
  clear hC hB18 hz18
  go_wp2_with fail
  refine (pow_at (Lib.hid (by decide)) (Lib.hid (by decide)) (Lib.hid wake20)).mono ?_
  rintro e' W20 ⟨rfl, hC⟩
  have hB20 := hB19.trans (hC.mono hz19)
  have hz20 := hB20.size
  clear hC hB19 hz19
  go_wp2_with fail
  refine (pow_at (Lib.hid (by decide)) (Lib.hid (by decide)) (Lib.hid wake21)).mono ?_
  rintro e' W21 ⟨rfl, hC⟩
  have hB21 := hB20.trans (hC.mono hz20)
  have hz21 := hB21.size
  clear hC hB20 hz20
  go_wp2
  go_ret
  exact ⟨rfl, hB21⟩
end Go.Proofs.Ytegeadkilolngaa
