/- The statement ElemTurned: Tanh, Erf and the sine are odd functions, the cosine is an even one (the circle below 2^40 in amount). No condition. -/
import Derived.Test.YtegeadkilolngaaMSoft
import Derived.Test.YtegeadkilolngaaElH
import Derived.Test.YtegeadkilolngaaElP
namespace Go.Proofs.Ytegeadkilolngaa.elemTurned
open Go.ChangeShapes Go.WideShapes Go.ChangeAt Go.RowKit
set_option linter.unusedVariables false

set_option maxRecDepth 100000 in
set_option maxHeartbeats 3200000 in
theorem walk (w : World) (a0 : Int) (w0 : (Lit.int .u32 a0).wf = true) :
    Calls Try.prog 4 #[.int .u32 a0] w fun e w' => e = .returned (.bool true) ∧ Below w.heap.size w w' := by
  obtain ⟨x, rfl, L_x⟩ := u32_nat w0
  clear w0
  have L_y : Hid (negP x < 4294967296) := Lib.hid (neg_lt L_x.out)
  have L_ax : Hid (absP x < 4294967296) := Lib.hid (lt_abs x)
  obtain ⟨n, hn⟩ : ∃ n, nanP x = n := ⟨_, rfl⟩
  have C1 := Lib.hid hn
  cases n
  case true =>
    have hn' : nanP (negP x) = true := by rw [nan_neg' L_x.out]; exact hn
    have H1 : Hid (tanhP (negP x) = 2143289344) := Lib.hid (by unfold tanhP; rw [if_pos hn'])
    have H2 : Hid (tanhP x = 2143289344) := Lib.hid (by unfold tanhP; rw [if_pos hn])
    have H3 : Hid (circP (negP x) 0 = 2143289344) := Lib.hid (by unfold circP; rw [if_pos hn'])
    clear hn hn'
    go_enter Try.func4, Try.ntmps4
    go_wp2_with fail
    refine (eawake_any _).mono ?_
    rintro e W1 ⟨rfl, hB1⟩
    have hz1 := hB1.size
    go_wp2_with fail
    refine (rneg_any x _ L_x).mono ?_
    rintro e' w' ⟨rfl, hw⟩
    subst w'
    go_wp2_with fail
    refine (rnone_at L_x C1).mono ?_
    rintro e' w' ⟨rfl, hw⟩
    subst w'
    go_wp2_with fail
    refine (tanh_at (r := 2143289344) L_y H1).mono ?_
    rintro e' W2 ⟨rfl, hC⟩
    have hB2 := hB1.trans (hC.mono hz1)
    have hz2 := hB2.size
    clear hC hB1 hz1
    go_wp2_with fail
    refine (tanh_at (r := 2143289344) L_x H2).mono ?_
    rintro e' W3 ⟨rfl, hC⟩
    have hB3 := hB2.trans (hC.mono hz2)
    have hz3 := hB3.size
    clear hC hB2 hz2
    go_wp2_with fail
    refine (sin_at (r := 2143289344) L_y H3).mono ?_
    rintro e' W4 ⟨rfl, hC⟩
    have hB4 := hB3.trans (hC.mono hz3)
    have hz4 := hB4.size
    clear hC hB3 hz3
    go_wp2
    go_ret
    exact ⟨rfl, hB4⟩
  case false =>
    obtain ⟨t, h_t⟩ : ∃ v, tanhP x = v := ⟨_, rfl⟩
    have L_t : Hid (t < 4294967296) := Lib.hid (by rw [← h_t]; exact lt_tanh L_x.out)
    have R_t := Lib.hid h_t
    obtain ⟨v, h_e⟩ : ∃ v, erfP x = v := ⟨_, rfl⟩
    have L_v : Hid (v < 4294967296) := Lib.hid (by rw [← h_e]; exact lt_erf L_x.out)
    have R_e := Lib.hid h_e
    have H1 : Hid (tanhP (negP x) = negP t) := Lib.hid (by rw [← h_t]; exact tanh_neg L_x.out hn)
    have H2 : Hid (erfP (negP x) = negP v) := Lib.hid (by rw [← h_e]; exact erf_neg L_x.out hn)
    obtain ⟨l, hl⟩ : ∃ l, lessP (absP x) 1400897536 = l := ⟨_, rfl⟩
    have C2 := Lib.hid hl
    clear h_t h_e
    cases l
    case false =>
      clear hn hl
      go_enter Try.func4, Try.ntmps4
      go_wp2_with fail
      refine (eawake_any _).mono ?_
      rintro e W1 ⟨rfl, hB1⟩
      have hz1 := hB1.size
      go_wp2_with fail
      refine (rneg_any x _ L_x).mono ?_
      rintro e' w' ⟨rfl, hw⟩
      subst w'
      go_wp2_with fail
      refine (rnone_at L_x C1).mono ?_
      rintro e' w' ⟨rfl, hw⟩
      subst w'
      go_wp2_with fail
      refine (tanh_at L_y H1).mono ?_
      rintro e' W2 ⟨rfl, hC⟩
      have hB2 := hB1.trans (hC.mono hz1)
      have hz2 := hB2.size
      clear hC hB1 hz1
      go_wp2_with fail
      refine (tanh_at L_x R_t).mono ?_
      rintro e' W3 ⟨rfl, hC⟩
      have hB3 := hB2.trans (hC.mono hz2)
      have hz3 := hB3.size
      clear hC hB2 hz2
      go_wp2_with fail
      refine (rneg_any t _ L_t).mono ?_
      rintro e' w' ⟨rfl, hw⟩
      subst w'
      go_wp2_with fail
      refine (erf_at L_y H2).mono ?_
      rintro e' W4 ⟨rfl, hC⟩
      have hB4 := hB3.trans (hC.mono hz3)
      have hz4 := hB4.size
      clear hC hB3 hz3
      go_wp2_with fail
      refine (erf_at L_x R_e).mono ?_
      rintro e' W5 ⟨rfl, hC⟩
      have hB5 := hB4.trans (hC.mono hz4)
      have hz5 := hB5.size
      clear hC hB4 hz4
      go_wp2_with fail
      refine (rneg_any v _ L_v).mono ?_
      rintro e' w' ⟨rfl, hw⟩
      subst w'
      go_wp2_with fail
      refine (rabs_any x _ L_x).mono ?_
      rintro e' w' ⟨rfl, hw⟩
      subst w'
      go_wp2_with fail
      refine (less3_at L_ax (Lib.hid (by decide)) C2).mono ?_
      rintro e' w' ⟨rfl, hw⟩
      subst w'
      go_wp2
      go_ret
      exact ⟨rfl, hB5⟩
    case true =>
      have ox := ok_of L_x.out hn
      have hx : absP x < 1400897536 := by
        rw [less_iff (ok_absP ox) ⟨by decide, by decide⟩, decide_eq_true_iff, show placeP 1400897536 = 1400897536 from by decide] at hl
        unfold placeP absP at *
        split at hl <;> omega
      obtain ⟨hs, hc⟩ := circ_turned ⟨L_x.out, by omega⟩ hx
      obtain ⟨s, h_s⟩ : ∃ v, circP x 0 = v := ⟨_, rfl⟩
      have L_s : Hid (s < 4294967296) := Lib.hid (by rw [← h_s]; exact lt_circ 0 L_x.out)
      have R_s := Lib.hid h_s
      obtain ⟨s2, h_s2⟩ : ∃ v, circP (negP x) 0 = v := ⟨_, rfl⟩
      have L_s2 : Hid (s2 < 4294967296) := Lib.hid (by rw [← h_s2]; exact lt_circ 0 L_y.out)
      have R_s2 := Lib.hid h_s2
      obtain ⟨c, h_c⟩ : ∃ v, circP x 1 = v := ⟨_, rfl⟩
      have L_c : Hid (c < 4294967296) := Lib.hid (by rw [← h_c]; exact lt_circ 1 L_x.out)
      have R_c := Lib.hid h_c
      have H4 : Hid (circP (negP x) 1 = c) := Lib.hid (by rw [← hc, h_c])
      rw [h_s, h_s2] at hs
      clear hn hl ox hx hc h_c h_s
      by_cases hs1 : s2 = negP s
      · subst hs1
        have H3 := Lib.hid h_s2
        clear hs h_s2
        go_enter Try.func4, Try.ntmps4
        go_wp2_with fail
        refine (eawake_any _).mono ?_
        rintro e W1 ⟨rfl, hB1⟩
        have hz1 := hB1.size
        go_wp2_with fail
        refine (rneg_any x _ L_x).mono ?_
        rintro e' w' ⟨rfl, hw⟩
        subst w'
        go_wp2_with fail
        refine (rnone_at L_x C1).mono ?_
        rintro e' w' ⟨rfl, hw⟩
        subst w'
        go_wp2_with fail
        refine (tanh_at L_y H1).mono ?_
        rintro e' W2 ⟨rfl, hC⟩
        have hB2 := hB1.trans (hC.mono hz1)
        have hz2 := hB2.size
        clear hC hB1 hz1
        go_wp2_with fail
        refine (tanh_at L_x R_t).mono ?_
        rintro e' W3 ⟨rfl, hC⟩
        have hB3 := hB2.trans (hC.mono hz2)
        have hz3 := hB3.size
        clear hC hB2 hz2
        go_wp2_with fail
        refine (rneg_any t _ L_t).mono ?_
        rintro e' w' ⟨rfl, hw⟩
        subst w'
        go_wp2_with fail
        refine (erf_at L_y H2).mono ?_
        rintro e' W4 ⟨rfl, hC⟩
        have hB4 := hB3.trans (hC.mono hz3)
        have hz4 := hB4.size
        clear hC hB3 hz3
        go_wp2_with fail
        refine (erf_at L_x R_e).mono ?_
        rintro e' W5 ⟨rfl, hC⟩
        have hB5 := hB4.trans (hC.mono hz4)
        have hz5 := hB5.size
        clear hC hB4 hz4
        go_wp2_with fail
        refine (rneg_any v _ L_v).mono ?_
        rintro e' w' ⟨rfl, hw⟩
        subst w'
        go_wp2_with fail
        refine (rabs_any x _ L_x).mono ?_
        rintro e' w' ⟨rfl, hw⟩
        subst w'
        go_wp2_with fail
        refine (less3_at L_ax (Lib.hid (by decide)) C2).mono ?_
        rintro e' w' ⟨rfl, hw⟩
        subst w'
        go_wp2_with fail
        refine (sin_at L_x R_s).mono ?_
        rintro e' W6 ⟨rfl, hC⟩
        have hB6 := hB5.trans (hC.mono hz5)
        have hz6 := hB6.size
        clear hC hB5 hz5
        go_wp2_with fail
        refine (sin_at L_y H3).mono ?_
        rintro e' W7 ⟨rfl, hC⟩
        have hB7 := hB6.trans (hC.mono hz6)
        have hz7 := hB7.size
        clear hC hB6 hz6
        go_wp2_with fail
        refine (rneg_any s _ L_s).mono ?_
        rintro e' w' ⟨rfl, hw⟩
        subst w'
        go_wp2_with fail
        refine (cos_at L_x R_c).mono ?_
        rintro e' W8 ⟨rfl, hC⟩
        have hB8 := hB7.trans (hC.mono hz7)
        have hz8 := hB8.size
        clear hC hB7 hz7
        go_wp2_with fail
        refine (cos_at L_y H4).mono ?_
        rintro e' W9 ⟨rfl, hC⟩
        have hB9 := hB8.trans (hC.mono hz8)
        have hz9 := hB9.size
        clear hC hB8 hz8
        go_wp2
        go_ret
        exact ⟨rfl, hB9⟩
      · have Z1 : Hid (absP s = 0) := Lib.hid (hs.resolve_left hs1).1
        have Z2 : Hid (absP s2 = 0) := Lib.hid (hs.resolve_left hs1).2
        have hne := int_ne hs1
        clear hs hs1 h_s2
        go_enter Try.func4, Try.ntmps4
        go_wp2_with fail
        refine (eawake_any _).mono ?_
        rintro e W1 ⟨rfl, hB1⟩
        have hz1 := hB1.size
        go_wp2_with fail
        refine (rneg_any x _ L_x).mono ?_
        rintro e' w' ⟨rfl, hw⟩
        subst w'
        go_wp2_with fail
        refine (rnone_at L_x C1).mono ?_
        rintro e' w' ⟨rfl, hw⟩
        subst w'
        go_wp2_with fail
        refine (tanh_at L_y H1).mono ?_
        rintro e' W2 ⟨rfl, hC⟩
        have hB2 := hB1.trans (hC.mono hz1)
        have hz2 := hB2.size
        clear hC hB1 hz1
        go_wp2_with fail
        refine (tanh_at L_x R_t).mono ?_
        rintro e' W3 ⟨rfl, hC⟩
        have hB3 := hB2.trans (hC.mono hz2)
        have hz3 := hB3.size
        clear hC hB2 hz2
        go_wp2_with fail
        refine (rneg_any t _ L_t).mono ?_
        rintro e' w' ⟨rfl, hw⟩
        subst w'
        go_wp2_with fail
        refine (erf_at L_y H2).mono ?_
        rintro e' W4 ⟨rfl, hC⟩
        have hB4 := hB3.trans (hC.mono hz3)
        have hz4 := hB4.size
        clear hC hB3 hz3
        go_wp2_with fail
        refine (erf_at L_x R_e).mono ?_
        rintro e' W5 ⟨rfl, hC⟩
        have hB5 := hB4.trans (hC.mono hz4)
        have hz5 := hB5.size
        clear hC hB4 hz4
        go_wp2_with fail
        refine (rneg_any v _ L_v).mono ?_
        rintro e' w' ⟨rfl, hw⟩
        subst w'
        go_wp2_with fail
        refine (rabs_any x _ L_x).mono ?_
        rintro e' w' ⟨rfl, hw⟩
        subst w'
        go_wp2_with fail
        refine (less3_at L_ax (Lib.hid (by decide)) C2).mono ?_
        rintro e' w' ⟨rfl, hw⟩
        subst w'
        go_wp2_with fail
        refine (sin_at L_x R_s).mono ?_
        rintro e' W6 ⟨rfl, hC⟩
        have hB6 := hB5.trans (hC.mono hz5)
        have hz6 := hB6.size
        clear hC hB5 hz5
        go_wp2_with fail
        refine (sin_at L_y R_s2).mono ?_
        rintro e' W7 ⟨rfl, hC⟩
        have hB7 := hB6.trans (hC.mono hz6)
        have hz7 := hB7.size
        clear hC hB6 hz6
        go_wp2_with fail
        refine (rneg_any s _ L_s).mono ?_
        rintro e' w' ⟨rfl, hw⟩
        subst w'
        go_wp2_with fail
        refine (rabs_any s _ L_s).mono ?_
        rintro e' w' ⟨rfl, hw⟩
        subst w'
        rw [Z1.out]
        go_wp2_with fail
        refine (rabs_any s2 _ L_s2).mono ?_
        rintro e' w' ⟨rfl, hw⟩
        subst w'
        rw [Z2.out]
        go_wp2_with fail
        refine (cos_at L_x R_c).mono ?_
        rintro e' W8 ⟨rfl, hC⟩
        have hB8 := hB7.trans (hC.mono hz7)
        have hz8 := hB8.size
        clear hC hB7 hz7
        go_wp2_with fail
        refine (cos_at L_y H4).mono ?_
        rintro e' W9 ⟨rfl, hC⟩
        have hB9 := hB8.trans (hC.mono hz8)
        have hz9 := hB9.size
        clear hC hB8 hz8
        go_wp2
        go_ret
        exact ⟨rfl, hB9⟩

/-! ### THE ROW's STEP -/
set_option maxRecDepth 100000 in
theorem lifted (os : Os) (started : os.Started) (H : Type) (enc : TypeId × Value → H) :
    ReturnsInHanded {} Try.checked os 4 .any (Rows.elemTurnedSpec.pre6 enc Try.prog Try.f4 Rows.elemTurnedRow.domain false) (Rows.elemTurnedSpec.post enc Try.prog Try.f4 false true false false) := by
  refine returnsInHanded_of_change_sized (C := Try.checked) own started (by kernel_rfl) Try.func4
    (ChangeSpec.witness6 (enc := enc) (C := Try.checked) false ⟨#[], #[.int .u32 0], []⟩ 8 (by kernel_rfl) (by kernel_rfl) (by kernel_rfl) (by kernel_rfl)) ?_
  intro W base args ds gs before hval0 hW hcnd hsz0 _
  have hval : ∀ (j : Nat) t v, Try.f4.params[j]? = some t → args[j]? = some v → Value.okWide Try.prog W .any base t v := hval0
  have hW' := hW
  obtain ⟨p, q, hA0, hV, rfl, hfz, hnd⟩ := hW
  have hA : DataW.TrodAll enc Try.prog W 0 (fun _ => true) true Try.f4.params.toList args.toList ds p := hA0
  have hsz : (DataW.weightsEach Try.prog (Try.f4.params.toList ++ Rows.elemTurnedSpec.plain.varTypes Try.prog) (ds ++ gs)).all (· ≤ reachBytes) = true := hsz0
  rw [Try.params4] at hA hval hsz
  obtain ⟨v0, vs0, d0, ds0, p0, q0, hargs, rfl, rfl, h0, r0⟩ := trodAll_cons hA
  obtain ⟨rfl, rfl, rfl⟩ := trodAll_nil r0
  obtain rfl : args = #[v0] := by cases args; simp_all
  obtain ⟨rfl, rfl⟩ := trodVars_none hV
  clear hA0 hval0 hsz0
  obtain ⟨a0, rfl, rfl, rfl, w0⟩ := open_int Try.underlying22 (hval 0 22 v0 rfl rfl) h0
  refine (walk W a0 w0).mono fun e W' ⟨he, bel⟩ => ?_
  subst he
  exact ⟨_, rfl, _, _, _, [], _, [], hW', trodAll_mk1 (shut_bool Try.underlying4 _), (trodAll_cons_mk (shut_int Try.underlying22 w0) trodAll_mk0), rfl, bel.frame _, fun h => by cases h⟩

theorem over : Rows.elemTurnedRow.holds Try.pinned (OpenSpec.ofChange Rows.elemTurnedSpec) :=
  OpenClaim.holds_of_wide 4 Try.f4 rfl rfl rfl rfl rfl rfl rfl ⟨rfl, rfl, rfl, rfl, rfl⟩ rfl rfl rfl rfl rfl (by kernel_rfl) Try.func4 (by kernel_rfl)
    (of_decide_eq_true (by kernel_rfl)) (by unfold Func.isWrapper; first | (rw [if_pos (by decide +kernel)]; kernel_rfl) | (rw [if_neg (by decide +kernel)]; exact ⟨rfl, rfl⟩))
    (fun os started H enc _ => lifted os started H enc)

theorem proved : Rows.ElemTurnedSaid := over
#print axioms proved
end Go.Proofs.Ytegeadkilolngaa.elemTurned
