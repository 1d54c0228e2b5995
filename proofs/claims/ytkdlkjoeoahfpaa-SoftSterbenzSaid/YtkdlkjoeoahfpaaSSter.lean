/- The statement SoftSterbenz: where neither is more than twice the other one the difference is exact. No condition. -/
import Derived.Test.YtkdlkjoeoahfpaaSoftL
import Derived.Test.YtkdlkjoeoahfpaaSterQ
namespace Go.Proofs.Ytkdlkjoeoahfpaa.softSterbenz
open Go.ChangeShapes Go.WideShapes Go.ChangeAt Go.RowKit
set_option linter.unusedVariables false

theorem add0_at {a b r : Nat} {w : World} (h : Hid (a < 4294967296)) (h' : Hid (b < 4294967296)) (hr : Hid (addP 0 a b = r)) : Calls Try.prog 27 #[.int .u32 (a : Int), .int .u32 (b : Int)] w fun e w' => e = .returned (.int .u32 (r : Int)) ∧ Below w.heap.size w w' := by
  have := add0_any a b w h h'
  rw [hr.out] at this
  exact this
theorem mul0_at {a b r : Nat} {w : World} (h : Hid (a < 4294967296)) (h' : Hid (b < 4294967296)) (hr : Hid (mulP 0 a b = r)) : Calls Try.prog 24 #[.int .u32 (a : Int), .int .u32 (b : Int)] w fun e w' => e = .returned (.int .u32 (r : Int)) ∧ Below w.heap.size w w' := by
  have := mul0_any a b w h h'
  rw [hr.out] at this
  exact this
theorem div0_at {a b r : Nat} {w : World} (h : Hid (a < 4294967296)) (h' : Hid (b < 4294967296)) (hr : Hid (divP 0 a b = r)) : Calls Try.prog 18 #[.int .u32 (a : Int), .int .u32 (b : Int)] w fun e w' => e = .returned (.int .u32 (r : Int)) ∧ Below w.heap.size w w' := by
  have := div0_any a b w h h'
  rw [hr.out] at this
  exact this
theorem less_at2 {a b : Nat} {r : Bool} {w : World} (h : Hid (a < 4294967296)) (h' : Hid (b < 4294967296)) (hr : Hid (lessP a b = r)) : Calls Try.prog 20 #[.int .u32 (a : Int), .int .u32 (b : Int)] w fun e w' => e = .returned (.bool r) ∧ w' = w := by
  have := less_any a b w h.out h'.out
  rw [hr.out] at this
  exact this
theorem abs_at {a r : Nat} {w : World} (h : Hid (a < 4294967296)) (hr : Hid (absP a = r)) : Calls Try.prog 34 #[.int .u32 (a : Int)] w fun e w' => e = .returned (.int .u32 (r : Int)) ∧ w' = w := by
  have := abs_any a w h.out
  rw [hr.out] at this
  exact this
theorem neg_at {a r : Nat} {w : World} (h : Hid (a < 4294967296)) (hr : Hid (negP a = r)) : Calls Try.prog 35 #[.int .u32 (a : Int)] w fun e w' => e = .returned (.int .u32 (r : Int)) ∧ w' = w := by
  have := neg_any a w h.out
  rw [hr.out] at this
  exact this
theorem equal_at0 {a : Nat} {r : Bool} {w : World} (h : Hid (a < 4294967296)) (hr : Hid (equalP a 0 = r)) : Calls Try.prog 36 #[.int .u32 (a : Int), .int .u32 0] w fun e w' => e = .returned (.bool r) ∧ w' = w := by
  have := equal_any a 0 w h.out (by decide)
  rw [hr.out] at this
  exact this
set_option maxRecDepth 100000 in
set_option maxHeartbeats 3200000 in
theorem walk (w : World) (a0 : Int) (w0 : (Lit.int .u32 a0).wf = true) (a1 : Int) (w1 : (Lit.int .u32 a1).wf = true) :
    Calls Try.prog 10 #[.int .u32 a0, .int .u32 a1] w fun e w' => e = .returned (.bool true) ∧ Below w.heap.size w w' := by
  obtain ⟨a, rfl, HA⟩ := u32_nat w0
  obtain ⟨b, rfl, HB⟩ := u32_nat w1
  clear w0 w1
  have hsa : decide (2147483648 ≤ (a : Int)) = decide (2147483648 ≤ a) := by congr 1; apply propext; omega
  have hsb : decide (2147483648 ≤ (b : Int)) = decide (2147483648 ≤ b) := by congr 1; apply propext; omega
  obtain ⟨sa, ha⟩ : ∃ s, decide (2147483648 ≤ a) = s := ⟨_, rfl⟩
  obtain ⟨sb, hb⟩ : ∃ s, decide (2147483648 ≤ b) = s := ⟨_, rfl⟩
  rw [ha] at hsa
  rw [hb] at hsb
  have SA := Lib.hid ha
  have SB := Lib.hid hb
  clear ha hb
  go_enter Try.func10, Try.ntmps10
  go_wp2_with fail
  refine (awake_any _).mono ?_
  rintro e W1 ⟨rfl, hB1⟩
  have hz1 := hB1.size
  cases hna : nanP a
  case true =>
    have NA := Lib.hid hna
    clear hna
    go_wp2_with fail
    refine (nan_at HA NA).mono ?_
    rintro e w' ⟨rfl, rfl⟩
    go_wp2
    go_ret
    exact ⟨rfl, hB1⟩
  have NA := Lib.hid hna
  clear hna
  cases hnb : nanP b
  case true =>
    have NB := Lib.hid hnb
    clear hnb
    go_wp2_with fail
    refine (nan_at HA NA).mono ?_
    rintro e w' ⟨rfl, rfl⟩
    go_wp2_with fail
    refine (nan_at HB NB).mono ?_
    rintro e w' ⟨rfl, rfl⟩
    go_wp2
    go_ret
    exact ⟨rfl, hB1⟩
  have NB := Lib.hid hnb
  clear hnb
  cases hia : infP a
  case true =>
    have IA := Lib.hid hia
    clear hia
    go_wp2_with fail
    refine (nan_at HA NA).mono ?_
    rintro e w' ⟨rfl, rfl⟩
    go_wp2_with fail
    refine (nan_at HB NB).mono ?_
    rintro e w' ⟨rfl, rfl⟩
    go_wp2_with fail
    refine (inf_at HA IA).mono ?_
    rintro e w' ⟨rfl, rfl⟩
    go_wp2
    go_ret
    exact ⟨rfl, hB1⟩
  have IA := Lib.hid hia
  clear hia
  cases hib : infP b
  case true =>
    have IB := Lib.hid hib
    clear hib
    go_wp2_with fail
    refine (nan_at HA NA).mono ?_
    rintro e w' ⟨rfl, rfl⟩
    go_wp2_with fail
    refine (nan_at HB NB).mono ?_
    rintro e w' ⟨rfl, rfl⟩
    go_wp2_with fail
    refine (inf_at HA IA).mono ?_
    rintro e w' ⟨rfl, rfl⟩
    go_wp2_with fail
    refine (inf_at HB IB).mono ?_
    rintro e w' ⟨rfl, rfl⟩
    go_wp2
    go_ret
    exact ⟨rfl, hB1⟩
  have IB := Lib.hid hib
  clear hib
  by_cases hs : sa = sb
  case neg =>
    obtain rfl : sb = !sa := by cases sa <;> cases sb <;> simp_all
    have hq : (sa != !sa) = true := by cases sa <;> rfl
    clear hs
    go_wp2_with fail
    refine (nan_at HA NA).mono ?_
    rintro e w' ⟨rfl, rfl⟩
    go_wp2_with fail
    refine (nan_at HB NB).mono ?_
    rintro e w' ⟨rfl, rfl⟩
    go_wp2_with fail
    refine (inf_at HA IA).mono ?_
    rintro e w' ⟨rfl, rfl⟩
    go_wp2_with fail
    refine (inf_at HB IB).mono ?_
    rintro e w' ⟨rfl, rfl⟩
    go_wp2
    go_ret
    exact ⟨rfl, hB1⟩
  subst hs
  have hq : (sa != sa) = false := by simp
  obtain ⟨x, hx⟩ : ∃ x, absP a = x := ⟨_, rfl⟩
  obtain ⟨y, hy⟩ : ∃ x, absP b = x := ⟨_, rfl⟩
  obtain ⟨t1, ht1⟩ : ∃ t, addP 0 x x = t := ⟨_, rfl⟩
  obtain ⟨t2, ht2⟩ : ∃ t, addP 0 y y = t := ⟨_, rfl⟩
  have HXL : Hid (x < 4294967296) := Lib.hid (by rw [← hx]; unfold absP; omega)
  have HYL : Hid (y < 4294967296) := Lib.hid (by rw [← hy]; unfold absP; omega)
  have HT1L : Hid (t1 < 4294967296) := Lib.hid (by rw [← ht1]; exact (okR.add 0 HXL.out HXL.out).1)
  have HT2L : Hid (t2 < 4294967296) := Lib.hid (by rw [← ht2]; exact (okR.add 0 HYL.out HYL.out).1)
  have HX := Lib.hid hx
  have HY := Lib.hid hy
  have HT1 := Lib.hid ht1
  have HT2 := Lib.hid ht2
  clear hx hy ht1 ht2
  go_wp2_with fail
  refine (nan_at HA NA).mono ?_
  rintro e w' ⟨rfl, rfl⟩
  go_wp2_with fail
  refine (nan_at HB NB).mono ?_
  rintro e w' ⟨rfl, rfl⟩
  go_wp2_with fail
  refine (inf_at HA IA).mono ?_
  rintro e w' ⟨rfl, rfl⟩
  go_wp2_with fail
  refine (inf_at HB IB).mono ?_
  rintro e w' ⟨rfl, rfl⟩
  go_wp2_with fail
  refine (abs_at HA HX).mono ?_
  rintro e w' ⟨rfl, rfl⟩
  go_wp2_with fail
  refine (abs_at HB HY).mono ?_
  rintro e w' ⟨rfl, rfl⟩
  go_wp2_with fail
  refine (add0_at HXL HXL HT1).mono ?_
  rintro e W2 ⟨rfl, hC⟩
  have hB2 := hB1.trans (hC.mono hz1)
  have hz2 := hB2.size
  clear hC hB1 hz1
  cases hl1 : lessP t1 y
  case true =>
    have L1 := Lib.hid hl1
    clear hl1
    go_wp2_with fail
    refine (less_at2 HT1L HYL L1).mono ?_
    rintro e w' ⟨rfl, rfl⟩
    go_wp2
    go_ret
    exact ⟨rfl, hB2⟩
  have L1 := Lib.hid hl1
  clear hl1
  go_wp2_with fail
  refine (less_at2 HT1L HYL L1).mono ?_
  rintro e w' ⟨rfl, rfl⟩
  go_wp2_with fail
  refine (add0_at HYL HYL HT2).mono ?_
  rintro e W3 ⟨rfl, hC⟩
  have hB3 := hB2.trans (hC.mono hz2)
  have hz3 := hB3.size
  clear hC hB2 hz2
  cases hl2 : lessP t2 x
  case true =>
    have L2 := Lib.hid hl2
    clear hl2
    go_wp2_with fail
    refine (less_at2 HT2L HXL L2).mono ?_
    rintro e w' ⟨rfl, rfl⟩
    go_wp2
    go_ret
    exact ⟨rfl, hB3⟩
  have L2 := Lib.hid hl2
  clear hl2
  obtain ⟨q1, q2⟩ := sterbenz HA.out HB.out NA.out IA.out NB.out IB.out (SA.out.trans SB.out.symm) (by rw [HX.out, HY.out, HT1.out]; exact L1.out) (by rw [HX.out, HY.out, HT2.out]; exact L2.out)
  obtain ⟨nb, hnb⟩ : ∃ t, negP b = t := ⟨_, rfl⟩
  have HNB := Lib.hid hnb
  have HNBL : Hid (nb < 4294967296) := Lib.hid (by rw [← hnb]; exact neg_lt HB.out)
  rw [hnb] at q1 q2
  obtain ⟨d, hd⟩ : ∃ t, addP 0 a nb = t := ⟨_, rfl⟩
  obtain ⟨u, hu⟩ : ∃ t, addP 1 a nb = t := ⟨_, rfl⟩
  have HDL : Hid (d < 4294967296) := Lib.hid (by rw [← hd]; exact (okR.add 0 HA.out HNBL.out).1)
  rw [hd, hu] at q1
  rw [hd] at q2
  obtain ⟨v, hv⟩ : ∃ t, addP 0 d b = t := ⟨_, rfl⟩
  have HVL : Hid (v < 4294967296) := Lib.hid (by rw [← hv]; exact (okR.add 0 HDL.out HB.out).1)
  rw [hv] at q2
  have HD : Hid (addP 0 a (negP b) = d) := Lib.hid (by rw [hnb]; exact hd)
  have HU := Lib.hid hu
  have HV := Lib.hid hv
  have E2 := Lib.hid q2
  clear hnb hd hu hv q2
  go_wp2_with fail
  refine (less_at2 HT2L HXL L2).mono ?_
  rintro e w' ⟨rfl, rfl⟩
  go_wp2_with fail
  refine (sub_at HA HB HD).mono ?_
  rintro e W4 ⟨rfl, hC⟩
  have hB4 := hB3.trans (hC.mono hz3)
  have hz4 := hB4.size
  clear hC hB3 hz3
  go_wp2_with fail
  refine (neg_at HB HNB).mono ?_
  rintro e w' ⟨rfl, rfl⟩
  go_wp2_with fail
  refine (add_at HA HNBL HU).mono ?_
  rintro e W5 ⟨rfl, hC⟩
  have hB5 := hB4.trans (hC.mono hz4)
  have hz5 := hB5.size
  clear hC hB4 hz4
  by_cases hud : u = d
  · subst hud
    clear q1
    go_wp2_with fail
    refine (add0_at HDL HB HV).mono ?_
    rintro e W6 ⟨rfl, hC⟩
    have hB6 := hB5.trans (hC.mono hz5)
    have hz6 := hB6.size
    clear hC hB5 hz5
    go_wp2_with fail
    refine (equal_at HVL HA E2).mono ?_
    rintro e w' ⟨rfl, rfl⟩
    go_wp2
    go_ret
    exact ⟨rfl, hB6⟩
  · have hud' : ((u : Int) == (d : Int)) = false := by rw [beq_eq_false_iff_ne]; omega
    have E1 : Hid (equalP d 0 = true) := Lib.hid (by rcases q1 with e | e; · exact absurd e hud
                                                     · exact e)
    clear q1 hud
    go_wp2_with fail
    refine (equal_at0 HDL E1).mono ?_
    rintro e w' ⟨rfl, rfl⟩
    go_wp2_with fail
    refine (add0_at HDL HB HV).mono ?_
    rintro e W6 ⟨rfl, hC⟩
    have hB6 := hB5.trans (hC.mono hz5)
    have hz6 := hB6.size
    clear hC hB5 hz5
    go_wp2_with fail
    refine (equal_at HVL HA E2).mono ?_
    rintro e w' ⟨rfl, rfl⟩
    go_wp2
    go_ret
    exact ⟨rfl, hB6⟩

/-! ### THE ROW's STEP -/
set_option maxRecDepth 100000 in
theorem lifted (os : Os) (started : os.Started) (H : Type) (enc : TypeId × Value → H) :
    ReturnsInHanded {} Try.checked os 10 .any (Rows.softSterbenzSpec.pre6 enc Try.prog Try.f10 Rows.softSterbenzRow.domain false) (Rows.softSterbenzSpec.post enc Try.prog Try.f10 false true false false) := by
  refine returnsInHanded_of_change_sized (C := Try.checked) own started (by kernel_rfl) Try.func10
    (ChangeSpec.witness6 (enc := enc) (C := Try.checked) false ⟨#[], #[.int .u32 0, .int .u32 0], []⟩ 8 (by kernel_rfl) (by kernel_rfl) (by kernel_rfl) (by kernel_rfl)) ?_
  intro W base args ds gs before hval0 hW hcnd hsz0 _
  have hval : ∀ (j : Nat) t v, Try.f10.params[j]? = some t → args[j]? = some v → Value.okWide Try.prog W .any base t v := hval0
  have hW' := hW
  obtain ⟨p, q, hA0, hV, rfl, hfz, hnd⟩ := hW
  have hA : DataW.TrodAll enc Try.prog W 0 (fun _ => true) true Try.f10.params.toList args.toList ds p := hA0
  have hsz : (DataW.weightsEach Try.prog (Try.f10.params.toList ++ Rows.softSterbenzSpec.plain.varTypes Try.prog) (ds ++ gs)).all (· ≤ reachBytes) = true := hsz0
  rw [Try.params10] at hA hval hsz
  obtain ⟨v0, vs0, d0, ds0, p0, q0, hargs, rfl, rfl, h0, r0⟩ := trodAll_cons hA
  obtain ⟨v1, vs1, d1, ds1, p1, q1, rfl, rfl, rfl, h1, r1⟩ := trodAll_cons r0
  obtain ⟨rfl, rfl, rfl⟩ := trodAll_nil r1
  obtain rfl : args = #[v0, v1] := by cases args; simp_all
  obtain ⟨rfl, rfl⟩ := trodVars_none hV
  clear hA0 hval0 hsz0
  obtain ⟨a0, rfl, rfl, rfl, w0⟩ := open_int Try.underlying24 (hval 0 24 v0 rfl rfl) h0
  obtain ⟨a1, rfl, rfl, rfl, w1⟩ := open_int Try.underlying24 (hval 1 24 v1 rfl rfl) h1
  refine (walk W a0 w0 a1 w1).mono fun e W' ⟨he, bel⟩ => ?_
  subst he
  exact ⟨_, rfl, _, _, _, [], _, [], hW', trodAll_mk1 (shut_bool Try.underlying4 _), (trodAll_cons_mk (shut_int Try.underlying24 w0) (trodAll_cons_mk (shut_int Try.underlying24 w1) trodAll_mk0)), rfl, bel.frame _, fun h => by cases h⟩

theorem over : Rows.softSterbenzRow.holds Try.pinned (OpenSpec.ofChange Rows.softSterbenzSpec) :=
  OpenClaim.holds_of_wide 10 Try.f10 rfl rfl rfl rfl rfl rfl rfl ⟨rfl, rfl, rfl, rfl, rfl⟩ rfl rfl rfl rfl rfl (by kernel_rfl) Try.func10 (by kernel_rfl)
    (of_decide_eq_true (by kernel_rfl)) (by unfold Func.isWrapper; first | (rw [if_pos (by decide +kernel)]; kernel_rfl) | (rw [if_neg (by decide +kernel)]; exact ⟨rfl, rfl⟩))
    (fun os started H enc _ => lifted os started H enc)

theorem proved : Rows.SoftSterbenzSaid := over
#print axioms proved
end Go.Proofs.Ytkdlkjoeoahfpaa.softSterbenz
