/- The statement RoundFused: a product with 1 is the sum, a sum with the product's nought is the product; each result is its own Canon. No condition. -/
import Derived.Test.YtanccobllehnaaaMSoft
import Derived.Test.YtanccobllehnaaaMRdB
import Derived.Test.YtanccobllehnaaaRdZ
namespace Go.Proofs.Ytanccobllehnaaa.roundFused
open Go.ChangeShapes Go.WideShapes Go.ChangeAt Go.RowKit
set_option linter.unusedVariables false

theorem sign_bit {a : Nat} (h : a < 4294967296) : a.testBit 31 = decide (2147483648 ≤ a) := by
  rw [Nat.testBit_eq_decide_div_mod_eq]
  congr 1
  apply propext
  omega
theorem nought_bits {a b : Nat} (ha : a < 4294967296) (hb : b < 4294967296) : bits .and .u32 (bits .xor .u32 (a : Int) (b : Int)) 2147483648 = ((sgn (sgnX a b) : Nat) : Int) := by
  have hx : a ^^^ b < 4294967296 := Nat.xor_lt_two_pow (n := 32) ha hb
  rw [u32_xor_nat a b ha hb]
  refine (u32_and_nat (a ^^^ b) 2147483648 hx (by decide)).trans ?_
  congr 1
  apply Nat.eq_of_testBit_eq
  intro i
  rw [Nat.testBit_and, Nat.testBit_xor, show (2147483648 : Nat) = 2 ^ 31 from rfl, Nat.testBit_two_pow]
  by_cases h1 : 31 = i
  · subst h1
    rw [sign_bit ha, sign_bit hb]
    unfold sgnX
    cases decide (2147483648 ≤ a) <;> cases decide (2147483648 ≤ b) <;> decide
  · rw [decide_eq_false h1, Bool.and_false]
    cases sgnX a b
    · show false = Nat.testBit 0 i
      rw [Nat.zero_testBit]
    · show false = Nat.testBit (2 ^ 31) i
      rw [Nat.testBit_two_pow, decide_eq_false h1]
theorem canon_at {a b : Nat} {w : World} (h : Hid (a < 4294967296)) (hb : Hid (canonP a = b)) : Calls Try.prog 40 #[.int .u32 (a : Int)] w fun e w' => e = .returned (.int .u32 (b : Int)) ∧ w' = w := by
  have := canon_any a w h.out
  rw [hb.out] at this
  exact this
theorem fma_at {way : Int} {a b c r : Nat} {w : World} (h1 : Hid (a < 4294967296)) (h2 : Hid (b < 4294967296)) (h3 : Hid (c < 4294967296)) (hr : Hid (fmaP way a b c = r)) :
    Calls Try.prog 12 #[.int .i64 way, .int .u32 (a : Int), .int .u32 (b : Int), .int .u32 (c : Int)] w (BR w r) := by
  have := fma_any way a b c w h1 h2 h3
  rw [hr.out] at this
  exact this
theorem sqrt_at {way : Int} {a r : Nat} {w : World} (h1 : Hid (a < 4294967296)) (hr : Hid (sqrtP way a = r)) :
    Calls Try.prog 16 #[.int .i64 way, .int .u32 (a : Int)] w (BR w r) := by
  have := sqrt_any way a w h1
  rw [hr.out] at this
  exact this
theorem same_any (a : Nat) (w : World) : Calls Try.prog 38 #[.int .u32 (a : Int), .int .u32 (a : Int)] w fun e w' => e = .returned (.bool true) ∧ w' = w := by
  have hq : ((a : Int) == (a : Int)) = true := by simp
  go_enter Try.func38, Try.ntmps38
  go_wp2
  go_ret
  exact ⟨rfl, rfl⟩
set_option maxRecDepth 100000 in
set_option maxHeartbeats 3200000 in
theorem walk (w : World) (a0 : Int) (w0 : (Lit.int .i64 a0).wf = true) (a1 : Int) (w1 : (Lit.int .u32 a1).wf = true) (a2 : Int) (w2 : (Lit.int .u32 a2).wf = true) (a3 : Int) (w3 : (Lit.int .u32 a3).wf = true) :
    Calls Try.prog 10 #[.int .i64 a0, .int .u32 a1, .int .u32 a2, .int .u32 a3] w fun e w' => e = .returned (.bool true) ∧ Below w.heap.size w w' := by
  obtain ⟨a, rfl, HA⟩ := u32_nat w1
  obtain ⟨b, rfl, HB⟩ := u32_nat w2
  obtain ⟨c, rfl, HC⟩ := u32_nat w3
  clear w0 w1 w2 w3
  have H1 : Hid ((1065353216 : Nat) < 4294967296) := Lib.hid (by decide)
  have hn := nought_bits HA.out HB.out
  obtain ⟨z, hz⟩ : ∃ z, sgn (sgnX a b) = z := ⟨_, rfl⟩
  rw [hz] at hn
  have HZL : Hid (z < 4294967296) := Lib.hid (by rw [← hz]; cases sgnX a b <;> decide)
  obtain ⟨r, hr⟩ : ∃ r, addP a0 a c = r := ⟨_, rfl⟩
  have HR := Lib.hid hr
  have HR2 : Hid (fmaP a0 a 1065353216 c = r) := Lib.hid (by rw [fma_add a0 HA.out HC.out, hr])
  obtain ⟨p, hp⟩ : ∃ r, mulP a0 a b = r := ⟨_, rfl⟩
  have HP := Lib.hid hp
  have HP2 : Hid (fmaP a0 a b z = p) := Lib.hid (by rw [← hz, fma_mul, hp])
  obtain ⟨x, hx⟩ : ∃ r, fmaP a0 a b c = r := ⟨_, rfl⟩
  have ox := okR.fma a0 (a := a) (b := b) HC.out
  rw [hx] at ox
  have HX := Lib.hid hx
  have HXL := Lib.hid ox.1
  have HXC := Lib.hid ox.canon
  obtain ⟨y, hy⟩ : ∃ r, sqrtP a0 a = r := ⟨_, rfl⟩
  have oy := okR.sqrt a0 HA.out
  rw [hy] at oy
  have HY := Lib.hid hy
  have HYL := Lib.hid oy.1
  have HYC := Lib.hid oy.canon
  clear hz hr hp hx hy ox oy
  go_enter Try.func10, Try.ntmps10
  go_wp2_with fail
  refine (rawake_any _).mono ?_
  rintro e W1 ⟨rfl, hB1⟩
  have hz1 := hB1.size
  go_wp2_with fail
  refine (fma_at HA H1 HC HR2).mono ?_
  rintro e W2 ⟨rfl, hC⟩
  have hB2 := hB1.trans (hC.mono hz1)
  have hz2 := hB2.size
  clear hC hB1 hz1
  go_wp2_with fail
  refine (add_at HA HC HR).mono ?_
  rintro e W3 ⟨rfl, hC⟩
  have hB3 := hB2.trans (hC.mono hz2)
  have hz3 := hB3.size
  clear hC hB2 hz2
  go_wp2_with fail
  refine (same_any r _).mono ?_
  rintro e w' ⟨rfl, rfl⟩
  go_wp2_with fail
  refine (fma_at HA HB HZL HP2).mono ?_
  rintro e W4 ⟨rfl, hC⟩
  have hB4 := hB3.trans (hC.mono hz3)
  have hz4 := hB4.size
  clear hC hB3 hz3
  go_wp2_with fail
  refine (mul_at HA HB HP).mono ?_
  rintro e W5 ⟨rfl, hC⟩
  have hB5 := hB4.trans (hC.mono hz4)
  have hz5 := hB5.size
  clear hC hB4 hz4
  go_wp2_with fail
  refine (fma_at HA HB HC HX).mono ?_
  rintro e W6 ⟨rfl, hC⟩
  have hB6 := hB5.trans (hC.mono hz5)
  have hz6 := hB6.size
  clear hC hB5 hz5
  go_wp2_with fail
  refine (sqrt_at HA HY).mono ?_
  rintro e W7 ⟨rfl, hC⟩
  have hB7 := hB6.trans (hC.mono hz6)
  have hz7 := hB7.size
  clear hC hB6 hz6
  go_wp2_with fail
  refine (canon_at HXL HXC).mono ?_
  rintro e w' ⟨rfl, rfl⟩
  go_wp2_with fail
  refine (canon_at HYL HYC).mono ?_
  rintro e w' ⟨rfl, rfl⟩
  go_wp2
  go_ret
  exact ⟨rfl, hB7⟩

/-! ### THE ROW's STEP -/
set_option maxRecDepth 100000 in
theorem lifted (os : Os) (started : os.Started) (H : Type) (enc : TypeId × Value → H) :
    ReturnsInHanded {} Try.checked os 10 .any (Rows.roundFusedSpec.pre6 enc Try.prog Try.f10 Rows.roundFusedRow.domain false) (Rows.roundFusedSpec.post enc Try.prog Try.f10 false true false false) := by
  refine returnsInHanded_of_change_sized (C := Try.checked) own started (by kernel_rfl) Try.func10
    (ChangeSpec.witness6 (enc := enc) (C := Try.checked) false ⟨#[], #[.int .i64 0, .int .u32 0, .int .u32 0, .int .u32 0], []⟩ 8 (by kernel_rfl) (by kernel_rfl) (by kernel_rfl) (by kernel_rfl)) ?_
  intro W base args ds gs before hval0 hW hcnd hsz0 _
  have hval : ∀ (j : Nat) t v, Try.f10.params[j]? = some t → args[j]? = some v → Value.okWide Try.prog W .any base t v := hval0
  have hW' := hW
  obtain ⟨p, q, hA0, hV, rfl, hfz, hnd⟩ := hW
  have hA : DataW.TrodAll enc Try.prog W 0 (fun _ => true) true Try.f10.params.toList args.toList ds p := hA0
  have hsz : (DataW.weightsEach Try.prog (Try.f10.params.toList ++ Rows.roundFusedSpec.plain.varTypes Try.prog) (ds ++ gs)).all (· ≤ reachBytes) = true := hsz0
  rw [Try.params10] at hA hval hsz
  obtain ⟨v0, vs0, d0, ds0, p0, q0, hargs, rfl, rfl, h0, r0⟩ := trodAll_cons hA
  obtain ⟨v1, vs1, d1, ds1, p1, q1, rfl, rfl, rfl, h1, r1⟩ := trodAll_cons r0
  obtain ⟨v2, vs2, d2, ds2, p2, q2, rfl, rfl, rfl, h2, r2⟩ := trodAll_cons r1
  obtain ⟨v3, vs3, d3, ds3, p3, q3, rfl, rfl, rfl, h3, r3⟩ := trodAll_cons r2
  obtain ⟨rfl, rfl, rfl⟩ := trodAll_nil r3
  obtain rfl : args = #[v0, v1, v2, v3] := by cases args; simp_all
  obtain ⟨rfl, rfl⟩ := trodVars_none hV
  clear hA0 hval0 hsz0
  obtain ⟨a0, rfl, rfl, rfl, w0⟩ := open_int Try.underlying3 (hval 0 3 v0 rfl rfl) h0
  obtain ⟨a1, rfl, rfl, rfl, w1⟩ := open_int Try.underlying22 (hval 1 22 v1 rfl rfl) h1
  obtain ⟨a2, rfl, rfl, rfl, w2⟩ := open_int Try.underlying22 (hval 2 22 v2 rfl rfl) h2
  obtain ⟨a3, rfl, rfl, rfl, w3⟩ := open_int Try.underlying22 (hval 3 22 v3 rfl rfl) h3
  refine (walk W a0 w0 a1 w1 a2 w2 a3 w3).mono fun e W' ⟨he, bel⟩ => ?_
  subst he
  exact ⟨_, rfl, _, _, _, [], _, [], hW', trodAll_mk1 (shut_bool Try.underlying4 _), (trodAll_cons_mk (shut_int Try.underlying3 w0) (trodAll_cons_mk (shut_int Try.underlying22 w1) (trodAll_cons_mk (shut_int Try.underlying22 w2) (trodAll_cons_mk (shut_int Try.underlying22 w3) trodAll_mk0)))), rfl, bel.frame _, fun h => by cases h⟩

theorem over : Rows.roundFusedRow.holds Try.pinned (OpenSpec.ofChange Rows.roundFusedSpec) :=
  OpenClaim.holds_of_wide 10 Try.f10 rfl rfl rfl rfl rfl rfl rfl ⟨rfl, rfl, rfl, rfl, rfl⟩ rfl rfl rfl rfl rfl (by kernel_rfl) Try.func10 (by kernel_rfl)
    (of_decide_eq_true (by kernel_rfl)) (by unfold Func.isWrapper; first | (rw [if_pos (by decide +kernel)]; kernel_rfl) | (rw [if_neg (by decide +kernel)]; exact ⟨rfl, rfl⟩))
    (fun os started H enc _ => lifted os started H enc)

theorem proved : Rows.RoundFusedSaid := over
#print axioms proved
end Go.Proofs.Ytanccobllehnaaa.roundFused
