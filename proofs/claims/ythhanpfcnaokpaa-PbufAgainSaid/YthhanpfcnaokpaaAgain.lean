/- The statement PbufAgain: what Read reads, Write writes in no more bytes, and it is read again. No condition. -/
import Derived.Test.YthhanpfcnaokpaaBacks
namespace Go.Proofs.Ythhanpfcnaokpaa.pbufAgain
open Go.ChangeShapes Go.WideShapes Go.ChangeAt Go.RowKit
set_option linter.unusedVariables false

theorem walk (w : World) (A0 : Option Addr) (cap0 : Nat) (l0 : List UInt8) (hc0 : l0.length ≤ cap0) (hr0 : cap0 ≤ 140737488351232) (hb0 : RB w w.heap.size A0 l0) :
    Calls Try.prog 8 #[.slice A0 l0.length cap0] w fun e w' => e = .returned (.bool true) ∧ Below w.heap.size w w' := by
  go_enter Try.func8, Try.ntmps8
  go_wp2_with fail
  refine (awake_any _).mono ?_
  rintro e W1 ⟨rfl, hB1⟩
  obtain ⟨fs, er, hE⟩ : ∃ fs er, readE l0 = (fs, er) := ⟨_, _, rfl⟩
  go_wp2_with fail
  refine (read_at l0 rfl hE hc0 (by unfold maxLen; omega) ((hb0.below hB1).more hB1.size)).mono ?_
  rintro e W2 ⟨v2, rfl, ho2, hB2⟩
  have hB2' := hB1.trans (hB2.mono hB1.size)
  obtain ⟨A2, c2, rfl, hl2, hm2, hr2⟩ := ho2.form
  by_cases he : er = 0
  · subst he
    obtain ⟨hW, hle, hok⟩ := write_read hE
    have hf := wf_read hE
    have hR := read_write (ok_back hok) hW
    generalize wr fs = out at *
    clear hE hok
    go_wp2_with fail
    refine (write_at fs rfl hW hm2 hl2 hr2 hf).mono ?_
    rintro e W3 ⟨v3, rfl, ho3, hB3⟩
    have hB3' := hB2'.trans (hB3.mono hB2'.size)
    obtain ⟨A3, c3, rfl, hl3, hm3, hr3⟩ := ho3.form
    have hr2' := hr2.below hB3
    clear hW
    go_wp2_with fail
    refine (read_at out rfl hR hl3 hm3 hr3).mono ?_
    rintro e W4 ⟨v4, rfl, ho4, hB4⟩
    have hB4' := hB3'.trans (hB4.mono hB3'.size)
    obtain ⟨A4, c4, rfl, hl4, hm4, hr4⟩ := ho4.form
    have hr2'' := hr2'.below (hB4.mono hB3.size)
    clear hR
    have hly : (out.length : Int) ≤ (l0.length : Int) := by omega
    have hly' : decide ((out.length : Int) ≤ (l0.length : Int)) = true := by simpa using hle
    go_wp2_with fail
    refine (equal_n hr2'' hr4 rfl rfl (by omega)).mono ?_
    rintro e W5 ⟨rfl, m5, rfl⟩
    go_wp2
    go_ret
    exact ⟨rfl, below_drewN hB4' _⟩
  · obtain ⟨rfl, rfl | rfl⟩ := read_err hE he
    all_goals
      clear hE he
      go_wp2
      go_ret
      exact ⟨rfl, hB2'⟩

/-! ### THE ROW's STEP -/
set_option maxRecDepth 100000 in
theorem lifted (os : Os) (started : os.Started) (H : Type) (enc : TypeId × Value → H) :
    ReturnsInHanded {} Try.checked os 8 .any (Rows.pbufAgainSpec.pre6 enc Try.prog Try.f8 Rows.pbufAgainRow.domain false) (Rows.pbufAgainSpec.post enc Try.prog Try.f8 false true false false) := by
  refine returnsInHanded_of_change_sized (C := Try.checked) own started (by kernel_rfl) Try.func8
    (ChangeSpec.witness6 (enc := enc) (C := Try.checked) false ⟨#[], #[.slice none 0 0], []⟩ 8 (by kernel_rfl) (by kernel_rfl) (by kernel_rfl) (by kernel_rfl)) ?_
  intro W base args ds gs before hval0 hW hcnd hsz0 _
  have hval : ∀ (j : Nat) t v, Try.f8.params[j]? = some t → args[j]? = some v → Value.okWide Try.prog W .any base t v := hval0
  have hW' := hW
  obtain ⟨p, q, hA0, hV, rfl, hfz, hnd⟩ := hW
  have hA : DataW.TrodAll enc Try.prog W 0 (fun _ => true) true Try.f8.params.toList args.toList ds p := hA0
  have hsz : (DataW.weightsEach Try.prog (Try.f8.params.toList ++ Rows.pbufAgainSpec.plain.varTypes Try.prog) (ds ++ gs)).all (· ≤ reachBytes) = true := hsz0
  rw [Try.params8] at hA hval hsz
  obtain ⟨v0, vs0, d0, ds0, p0, q0, hargs, rfl, rfl, h0, r0⟩ := trodAll_cons hA
  obtain ⟨rfl, rfl, rfl⟩ := trodAll_nil r0
  obtain rfl : args = #[v0] := by cases args; simp_all
  obtain ⟨rfl, rfl⟩ := trodVars_none hV
  clear hA0 hval0 hsz0
  have k0 := h0
  have lt0 : ∀ x ∈ p0, x.block < W.heap.size := by obtain ⟨m, hm⟩ := k0; exact DataW.trod_lt m _ _ _ hm
  have wt0 : ∀ n ∈ d0.weights Try.prog 24, n ≤ reachBytes := fun n hn => by simpa using List.all_eq_true.1 hsz _ (DataW.weights_mem_each (j := 0) (t := 24) rfl rfl n hn)
  obtain ⟨A0, cap0, l0, rfl, hc0, hr0, hb0⟩ := open_bytes (hval 0 24 v0 rfl rfl) h0 wt0 (fun _ => rfl)
  refine (walk W A0 cap0 l0 hc0 hr0 hb0).mono fun e W' ⟨he, bel⟩ => ?_
  subst he
  exact ⟨_, rfl, _, _, _, [], _, [], hW', trodAll_mk1 (shut_bool Try.underlying4 _), (trodAll_cons_mk (Below.trod laidOut (by kernel_rfl) (of_decide_eq_true (by kernel_rfl)) k0 bel lt0) trodAll_mk0), rfl, bel.frame _, fun h => by cases h⟩

theorem over : Rows.pbufAgainRow.holds Try.pinned (OpenSpec.ofChange Rows.pbufAgainSpec) :=
  OpenClaim.holds_of_wide 8 Try.f8 rfl rfl rfl rfl rfl rfl rfl ⟨rfl, rfl, rfl, rfl, rfl⟩ rfl rfl rfl rfl rfl (by kernel_rfl) Try.func8 (by kernel_rfl)
    (of_decide_eq_true (by kernel_rfl)) (by unfold Func.isWrapper; first | (rw [if_pos (by decide +kernel)]; kernel_rfl) | (rw [if_neg (by decide +kernel)]; exact ⟨rfl, rfl⟩))
    (fun os started H enc _ => lifted os started H enc)

theorem proved : Rows.PbufAgainSaid := over
#print axioms proved
end Go.Proofs.Ythhanpfcnaokpaa.pbufAgain
