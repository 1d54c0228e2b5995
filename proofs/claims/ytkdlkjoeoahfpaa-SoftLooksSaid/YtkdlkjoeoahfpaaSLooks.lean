/- The statement SoftLooks: what one looks at, and how two are compared, is the document's own. No condition. -/
import Derived.Test.YtkdlkjoeoahfpaaSoftL
import Derived.Test.YtkdlkjoeoahfpaaLooks2
namespace Go.Proofs.Ytkdlkjoeoahfpaa.softLooks
open Go.ChangeShapes Go.WideShapes Go.ChangeAt Go.RowKit
set_option linter.unusedVariables false

set_option maxRecDepth 100000 in
set_option maxHeartbeats 1600000 in
theorem walk (w : World) (a0 : Int) (w0 : (Lit.int .u32 a0).wf = true) (a1 : Int) (w1 : (Lit.int .u32 a1).wf = true) :
    Calls Try.prog 12 #[.int .u32 a0, .int .u32 a1] w fun e w' => e = .returned (.bool true) ∧ Below w.heap.size w w' := by
  obtain ⟨a, rfl, HA⟩ := u32_nat w0
  obtain ⟨b, rfl, HB⟩ := u32_nat w1
  clear w0 w1
  have hI : (((absP a : Nat) : Int) == 2139095040) = infP a := by
    unfold infP absP
    by_cases hh : a % 2147483648 = 2139095040
    · rw [decide_eq_true hh, beq_iff_eq]; omega
    · rw [decide_eq_false hh, beq_eq_false_iff_ne]; omega
  obtain ⟨ib, hib⟩ : ∃ b, infP a = b := ⟨_, rfl⟩
  rw [hib] at hI
  have HI := Lib.hid hib
  clear hib
  go_enter Try.func12, Try.ntmps12
  go_wp2_with fail
  refine (awake_any _).mono ?_
  rintro e W1 ⟨rfl, hB1⟩
  by_cases hn : nanP a = true ∨ nanP b = true
  · have HNO := Lib.hid hn
    have HL : Hid (lessP a b = false) := Lib.hid (by unfold lessP; rcases hn with e | e <;> rw [e] <;> simp)
    have HE : Hid (equalP a b = false) := Lib.hid (by unfold equalP; rcases hn with e | e <;> rw [e] <;> simp)
    obtain ⟨nb, hnb⟩ : ∃ x, nanP a = x := ⟨_, rfl⟩
    have HN := Lib.hid hnb
    clear hn hnb
    go_wp2_with fail
    refine (canon_any a _ HA.out).mono ?_
    rintro e w' ⟨rfl, rfl⟩
    go_wp2_with fail
    refine (rcanon_any a _ HA).mono ?_
    rintro e w' ⟨rfl, rfl⟩
    go_wp2_with fail
    refine (nan_at HA HN).mono ?_
    rintro e w' ⟨rfl, rfl⟩
    go_wp2_with fail
    refine (rnone_at HA HN).mono ?_
    rintro e w' ⟨rfl, rfl⟩
    go_wp2_with fail
    refine (inf_at HA HI).mono ?_
    rintro e w' ⟨rfl, rfl⟩
    go_wp2_with fail
    refine (rabs_any a _ HA).mono ?_
    rintro e w' ⟨rfl, rfl⟩
    go_wp2_with fail
    refine (neg_any a _ HA.out).mono ?_
    rintro e w' ⟨rfl, rfl⟩
    go_wp2_with fail
    refine (rneg_any a _ HA).mono ?_
    rintro e w' ⟨rfl, rfl⟩
    go_wp2_with fail
    refine (abs_any a _ HA.out).mono ?_
    rintro e w' ⟨rfl, rfl⟩
    go_wp2_with fail
    refine (rabs_any a _ HA).mono ?_
    rintro e w' ⟨rfl, rfl⟩
    go_wp2_with fail
    refine (compared_no HA HB HNO.out).mono ?_
    rintro e w' ⟨rfl, rfl⟩
    go_wp2_with fail
    refine (less_at HA HB HL).mono ?_
    rintro e w' ⟨rfl, rfl⟩
    go_wp2_with fail
    refine (equal_at HA HB HE).mono ?_
    rintro e w' ⟨rfl, rfl⟩
    go_wp2_with fail
    refine (min_no HA HB HNO.out).mono ?_
    rintro e w' ⟨rfl, rfl⟩
    go_wp2_with fail
    refine (rmin_no HA HB HNO.out).mono ?_
    rintro e w' ⟨rfl, rfl⟩
    go_wp2_with fail
    refine (max_no HA HB HNO.out).mono ?_
    rintro e w' ⟨rfl, rfl⟩
    go_wp2_with fail
    refine (rmax_no HA HB HNO.out).mono ?_
    rintro e w' ⟨rfl, rfl⟩
    go_wp2
    go_ret
    exact ⟨rfl, hB1⟩
  · have HNA : Hid (nanP a = false) := Lib.hid (by cases h : nanP a <;> simp [h] at hn ⊢)
    have HNB : Hid (nanP b = false) := Lib.hid (by cases h : nanP b <;> simp [h] at hn ⊢)
    have HN := HNA
    clear hn
    by_cases h1 : placeP a < placeP b
    · have HC := Lib.hid (cmp_lt h1)
      have HL : Hid (lessP a b = true) := Lib.hid (by unfold lessP; rw [HNA.out, HNB.out, decide_eq_true h1]; rfl)
      have HE : Hid (equalP a b = false) := Lib.hid (by unfold equalP; rw [HNA.out, HNB.out, decide_eq_false (show ¬ placeP a = placeP b by omega)]; rfl)
      clear h1
      go_wp2_with fail
      refine (canon_any a _ HA.out).mono ?_
      rintro e w' ⟨rfl, rfl⟩
      go_wp2_with fail
      refine (rcanon_any a _ HA).mono ?_
      rintro e w' ⟨rfl, rfl⟩
      go_wp2_with fail
      refine (nan_at HA HN).mono ?_
      rintro e w' ⟨rfl, rfl⟩
      go_wp2_with fail
      refine (rnone_at HA HN).mono ?_
      rintro e w' ⟨rfl, rfl⟩
      go_wp2_with fail
      refine (inf_at HA HI).mono ?_
      rintro e w' ⟨rfl, rfl⟩
      go_wp2_with fail
      refine (rabs_any a _ HA).mono ?_
      rintro e w' ⟨rfl, rfl⟩
      go_wp2_with fail
      refine (neg_any a _ HA.out).mono ?_
      rintro e w' ⟨rfl, rfl⟩
      go_wp2_with fail
      refine (rneg_any a _ HA).mono ?_
      rintro e w' ⟨rfl, rfl⟩
      go_wp2_with fail
      refine (abs_any a _ HA.out).mono ?_
      rintro e w' ⟨rfl, rfl⟩
      go_wp2_with fail
      refine (rabs_any a _ HA).mono ?_
      rintro e w' ⟨rfl, rfl⟩
      go_wp2_with fail
      refine (compared_yes HA HB HNA HNB).mono ?_
      rintro e w' ⟨rfl, rfl⟩
      rw [HC.out]
      go_wp2_with fail
      refine (less_at HA HB HL).mono ?_
      rintro e w' ⟨rfl, rfl⟩
      go_wp2_with fail
      refine (equal_at HA HB HE).mono ?_
      rintro e w' ⟨rfl, rfl⟩
      go_wp2_with fail
      refine (min_yes HA HB HNA HNB).mono ?_
      rintro e w' ⟨rfl, rfl⟩
      go_wp2_with fail
      refine (rmin_yes HA HB HNA HNB).mono ?_
      rintro e w' ⟨rfl, rfl⟩
      go_wp2_with fail
      refine (max_yes HA HB HNA HNB).mono ?_
      rintro e w' ⟨rfl, rfl⟩
      go_wp2_with fail
      refine (rmax_yes HA HB HNA HNB).mono ?_
      rintro e w' ⟨rfl, rfl⟩
      go_wp2
      go_ret
      exact ⟨rfl, hB1⟩
    · by_cases h2 : placeP b < placeP a
      · have HC := Lib.hid (cmp_gt h2)
        have HL : Hid (lessP a b = false) := Lib.hid (by unfold lessP; rw [HNA.out, HNB.out, decide_eq_false h1]; rfl)
        have HE : Hid (equalP a b = false) := Lib.hid (by unfold equalP; rw [HNA.out, HNB.out, decide_eq_false (show ¬ placeP a = placeP b by omega)]; rfl)
        clear h1 h2
        go_wp2_with fail
        refine (canon_any a _ HA.out).mono ?_
        rintro e w' ⟨rfl, rfl⟩
        go_wp2_with fail
        refine (rcanon_any a _ HA).mono ?_
        rintro e w' ⟨rfl, rfl⟩
        go_wp2_with fail
        refine (nan_at HA HN).mono ?_
        rintro e w' ⟨rfl, rfl⟩
        go_wp2_with fail
        refine (rnone_at HA HN).mono ?_
        rintro e w' ⟨rfl, rfl⟩
        go_wp2_with fail
        refine (inf_at HA HI).mono ?_
        rintro e w' ⟨rfl, rfl⟩
        go_wp2_with fail
        refine (rabs_any a _ HA).mono ?_
        rintro e w' ⟨rfl, rfl⟩
        go_wp2_with fail
        refine (neg_any a _ HA.out).mono ?_
        rintro e w' ⟨rfl, rfl⟩
        go_wp2_with fail
        refine (rneg_any a _ HA).mono ?_
        rintro e w' ⟨rfl, rfl⟩
        go_wp2_with fail
        refine (abs_any a _ HA.out).mono ?_
        rintro e w' ⟨rfl, rfl⟩
        go_wp2_with fail
        refine (rabs_any a _ HA).mono ?_
        rintro e w' ⟨rfl, rfl⟩
        go_wp2_with fail
        refine (compared_yes HA HB HNA HNB).mono ?_
        rintro e w' ⟨rfl, rfl⟩
        rw [HC.out]
        go_wp2_with fail
        refine (less_at HA HB HL).mono ?_
        rintro e w' ⟨rfl, rfl⟩
        go_wp2_with fail
        refine (equal_at HA HB HE).mono ?_
        rintro e w' ⟨rfl, rfl⟩
        go_wp2_with fail
        refine (min_yes HA HB HNA HNB).mono ?_
        rintro e w' ⟨rfl, rfl⟩
        go_wp2_with fail
        refine (rmin_yes HA HB HNA HNB).mono ?_
        rintro e w' ⟨rfl, rfl⟩
        go_wp2_with fail
        refine (max_yes HA HB HNA HNB).mono ?_
        rintro e w' ⟨rfl, rfl⟩
        go_wp2_with fail
        refine (rmax_yes HA HB HNA HNB).mono ?_
        rintro e w' ⟨rfl, rfl⟩
        go_wp2
        go_ret
        exact ⟨rfl, hB1⟩
      · have he : placeP a = placeP b := by omega
        have HC := Lib.hid (cmp_eq he)
        have HL : Hid (lessP a b = false) := Lib.hid (by unfold lessP; rw [HNA.out, HNB.out, decide_eq_false h1]; rfl)
        have HE : Hid (equalP a b = true) := Lib.hid (by unfold equalP; rw [HNA.out, HNB.out, decide_eq_true he]; rfl)
        clear h1 h2 he
        go_wp2_with fail
        refine (canon_any a _ HA.out).mono ?_
        rintro e w' ⟨rfl, rfl⟩
        go_wp2_with fail
        refine (rcanon_any a _ HA).mono ?_
        rintro e w' ⟨rfl, rfl⟩
        go_wp2_with fail
        refine (nan_at HA HN).mono ?_
        rintro e w' ⟨rfl, rfl⟩
        go_wp2_with fail
        refine (rnone_at HA HN).mono ?_
        rintro e w' ⟨rfl, rfl⟩
        go_wp2_with fail
        refine (inf_at HA HI).mono ?_
        rintro e w' ⟨rfl, rfl⟩
        go_wp2_with fail
        refine (rabs_any a _ HA).mono ?_
        rintro e w' ⟨rfl, rfl⟩
        go_wp2_with fail
        refine (neg_any a _ HA.out).mono ?_
        rintro e w' ⟨rfl, rfl⟩
        go_wp2_with fail
        refine (rneg_any a _ HA).mono ?_
        rintro e w' ⟨rfl, rfl⟩
        go_wp2_with fail
        refine (abs_any a _ HA.out).mono ?_
        rintro e w' ⟨rfl, rfl⟩
        go_wp2_with fail
        refine (rabs_any a _ HA).mono ?_
        rintro e w' ⟨rfl, rfl⟩
        go_wp2_with fail
        refine (compared_yes HA HB HNA HNB).mono ?_
        rintro e w' ⟨rfl, rfl⟩
        rw [HC.out]
        go_wp2_with fail
        refine (less_at HA HB HL).mono ?_
        rintro e w' ⟨rfl, rfl⟩
        go_wp2_with fail
        refine (equal_at HA HB HE).mono ?_
        rintro e w' ⟨rfl, rfl⟩
        go_wp2_with fail
        refine (min_yes HA HB HNA HNB).mono ?_
        rintro e w' ⟨rfl, rfl⟩
        go_wp2_with fail
        refine (rmin_yes HA HB HNA HNB).mono ?_
        rintro e w' ⟨rfl, rfl⟩
        go_wp2_with fail
        refine (max_yes HA HB HNA HNB).mono ?_
        rintro e w' ⟨rfl, rfl⟩
        go_wp2_with fail
        refine (rmax_yes HA HB HNA HNB).mono ?_
        rintro e w' ⟨rfl, rfl⟩
        go_wp2
        go_ret
        exact ⟨rfl, hB1⟩

/-! ### THE ROW's STEP -/
set_option maxRecDepth 100000 in
theorem lifted (os : Os) (started : os.Started) (H : Type) (enc : TypeId × Value → H) :
    ReturnsInHanded {} Try.checked os 12 .any (Rows.softLooksSpec.pre6 enc Try.prog Try.f12 Rows.softLooksRow.domain false) (Rows.softLooksSpec.post enc Try.prog Try.f12 false true false false) := by
  refine returnsInHanded_of_change_sized (C := Try.checked) own started (by kernel_rfl) Try.func12
    (ChangeSpec.witness6 (enc := enc) (C := Try.checked) false ⟨#[], #[.int .u32 0, .int .u32 0], []⟩ 8 (by kernel_rfl) (by kernel_rfl) (by kernel_rfl) (by kernel_rfl)) ?_
  intro W base args ds gs before hval0 hW hcnd hsz0 _
  have hval : ∀ (j : Nat) t v, Try.f12.params[j]? = some t → args[j]? = some v → Value.okWide Try.prog W .any base t v := hval0
  have hW' := hW
  obtain ⟨p, q, hA0, hV, rfl, hfz, hnd⟩ := hW
  have hA : DataW.TrodAll enc Try.prog W 0 (fun _ => true) true Try.f12.params.toList args.toList ds p := hA0
  have hsz : (DataW.weightsEach Try.prog (Try.f12.params.toList ++ Rows.softLooksSpec.plain.varTypes Try.prog) (ds ++ gs)).all (· ≤ reachBytes) = true := hsz0
  rw [Try.params12] at hA hval hsz
  obtain ⟨v0, vs0, d0, ds0, p0, q0, hargs, rfl, rfl, h0, r0⟩ := trodAll_cons hA
  obtain ⟨v1, vs1, d1, ds1, p1, q1, rfl, rfl, rfl, h1, r1⟩ := trodAll_cons r0
  obtain ⟨rfl, rfl, rfl⟩ := trodAll_nil r1
  obtain rfl : args = #[v0, v1] := by cases args; simp_all
  obtain ⟨rfl, rfl⟩ := trodVars_none hV
  clear hA0 hval0 hsz0
  obtain ⟨a0, rfl, rfl, rfl, w0⟩ := open_int Try.underlying24 (hval 0 24 v0 rfl rfl) h0
  obtain ⟨a1, rfl, rfl, rfl, w1⟩ := open_int Try.underlying24 (hval 1 24 v1 rfl rfl) h1
  refine (walk W a0 w0 a1 w1).mono fun e W' ⟨he, bel⟩ => ?_
  subst he
  exact ⟨_, rfl, _, _, _, [], _, [], hW', trodAll_mk1 (shut_bool Try.underlying4 _), (trodAll_cons_mk (shut_int Try.underlying24 w0) (trodAll_cons_mk (shut_int Try.underlying24 w1) trodAll_mk0)), rfl, bel.frame _, fun h => by cases h⟩

theorem over : Rows.softLooksRow.holds Try.pinned (OpenSpec.ofChange Rows.softLooksSpec) :=
  OpenClaim.holds_of_wide 12 Try.f12 rfl rfl rfl rfl rfl rfl rfl ⟨rfl, rfl, rfl, rfl, rfl⟩ rfl rfl rfl rfl rfl (by kernel_rfl) Try.func12 (by kernel_rfl)
    (of_decide_eq_true (by kernel_rfl)) (by unfold Func.isWrapper; first | (rw [if_pos (by decide +kernel)]; kernel_rfl) | (rw [if_neg (by decide +kernel)]; exact ⟨rfl, rfl⟩))
    (fun os started H enc _ => lifted os started H enc)

theorem proved : Rows.SoftLooksSaid := over
#print axioms proved
end Go.Proofs.Ytkdlkjoeoahfpaa.softLooks
