/- The statement PbufLists, where what comes in is of bulk at most 1048576: Ints and Fixed answer as the document's own. -/
import Derived.Test.YthhanpfcnaokpaaListsK
import Derived.Deep.CondSized
namespace Go.Proofs.Ythhanpfcnaokpaa.pbufLists
open Go.ChangeShapes Go.WideShapes Go.ChangeAt Go.RowKit
set_option linter.unusedVariables false

def LKrel (xs : List Nat) (W : World) (i : Value) (wr : World) : Prop := ∃ k m : Nat, k ≤ xs.length ∧ i = .int .i64 (k : Int) ∧ wr = W.drewN m
set_option maxRecDepth 100000 in
set_option maxHeartbeats 1600000 in
theorem walk (w : World) (A0 : Option Addr) (cap0 : Nat) (l0 : List Fld) (hc0 : l0.length ≤ cap0) (hr0 : cap0 ≤ 2932031007400) (hb0 : RF w w.heap.size A0 l0) (hf0 : Wf64 l0) (hbk0 : bulkF l0 + 1 ≤ 1048576) (a1 : Int) (w1 : (Lit.int .i64 a1).wf = true) :
    Calls Try.prog 11 #[.slice A0 l0.length cap0, .int .i64 a1] w fun e w' => e = .returned (.bool true) ∧ Below w.heap.size w w' := by
  clear w1 hf0
  have hl0 : l0.length ≤ bulkF l0 := bulkF_len l0
  obtain ⟨xs, hxs⟩ : ∃ xs, (ints a1 l0).getD [] = xs := ⟨_, rfl⟩
  obtain ⟨er, her⟩ : ∃ er, errI (ints a1 l0) = er := ⟨_, rfl⟩
  obtain ⟨ys, hys⟩ : ∃ xs, (gat (fixs1 a1) l0).getD [] = xs := ⟨_, rfl⟩
  obtain ⟨es, hes⟩ : ∃ er, errI (gat (fixs1 a1) l0) = er := ⟨_, rfl⟩
  have HXS := Lib.hid hxs
  have HER := Lib.hid her
  have HYS := Lib.hid hys
  have HES := Lib.hid hes
  clear hxs her hys hes
  have hm0 : cap0 ≤ maxLen := by unfold maxLen; omega
  go_enter Try.func11, Try.ntmps11
  go_wp2_with fail
  refine (awake_any _).mono ?_
  rintro e W1 ⟨rfl, hB1⟩
  go_wp2_with fail
  refine (plain_any A0 cap0 l0 W1 hc0 hr0 ((hb0.below hB1).more hB1.size)).mono ?_
  rintro e W2 ⟨A2, c2, rfl, hl2, hm2, hr2, hB2⟩
  have hB2' := hB1.trans (hB2.mono hB1.size)
  go_wp2_with fail
  refine (ints_v HXS.out HER.out hm0 hc0 ((hb0.below hB2').more hB2'.size) (by omega)).mono ?_
  rintro e W3 ⟨A3, c3, rfl, hl3, hm3, hx3, hB3⟩
  have hB3' := hB2'.trans (hB3.mono hB2'.size)
  go_wp2_with fail
  refine (rints_v HXS.out HER.out (hr2.below hB3 |>.more hB3.size) (by omega) (by omega)).mono ?_
  rintro e W4 ⟨A4, c4, rfl, hl4, hm4, hx4, hB4⟩
  have hB4' := hB3'.trans (hB4.mono hB3'.size)
  have hB24 := hB3.trans (hB4.mono hB3.size)
  go_wp2_with fail
  refine (fixd_v HYS.out HES.out hm0 hc0 ((hb0.below hB4').more hB4'.size) (by omega)).mono ?_
  rintro e W5 ⟨A5, c5, rfl, hl5, hm5, hx5, hB5⟩
  have hB5' := hB4'.trans (hB5.mono hB4'.size)
  have hB25 := hB24.trans (hB5.mono hB24.size)
  go_wp2_with fail
  refine (rfixd_v HYS.out HES.out (hr2.below hB25 |>.more hB25.size) (by omega) (by omega)).mono ?_
  rintro e W6 ⟨A6, c6, rfl, hl6, hm6, hx6, hB6⟩
  have hB6' := hB5'.trans (hB6.mono hB5'.size)
  have hx5 := hx5.below hB6
  have hB46 := hB5.trans (hB6.mono hB5.size)
  have hx4 := hx4.below hB46
  have hx3 := hx3.below (hB4.trans (hB46.mono hB4.size))
  have hxl : xs.length ≤ maxLen := by omega
  have hyl : ys.length ≤ maxLen := by omega
  unfold maxLen at hxl hyl
  clear HXS HER HYS HES hb0 hr2 hB1 hB2 hB2' hB3 hB3' hB4 hB4' hB24 hB5 hB5' hB25 hB6 hB46 hm0 hm2 hm3 hm4 hm5 hm6 hl2 hl3 hl4 hl5 hl6
  have he1 : (er != er) = false := by simp
  have he2 : (es != es) = false := by simp
  go_wp2
  go_loopw [15] (fun i wr => LKrel xs W6 i wr) (fun i _ => xs.length - (intOf i).toNat)
  case atStart => exact ⟨0, 0, Nat.zero_le _, rfl, rfl⟩
  case round =>
    obtain ⟨k, n, hk, rfl, rfl⟩ := hrel
    by_cases hlt : k < xs.length
    · obtain ⟨b3, o3, rfl, -, a3⟩ := num_at hx3 hlt
      obtain ⟨b4, o4, rfl, -, a4⟩ := num_at hx4 hlt
      have hly : (k : Int) < (xs.length : Int) := by omega
      go_wp2
      go_quiet (fail)
      go_wp2
      go_roundw
      case rel => exact ⟨k + 1, _, by omega, by go_num, rfl⟩
      case measure => simp [intOf]; omega
    · have hly : ¬ (k : Int) < (xs.length : Int) := by omega
      go_wp2
      go_loopw [16] (fun i wr => LKrel ys W6 i wr) (fun i _ => ys.length - (intOf i).toNat)
      case atStart => exact ⟨0, n, Nat.zero_le _, rfl, rfl⟩
      case round =>
        clear hk hlt hly
        obtain ⟨k, n, hk, rfl, rfl⟩ := hrel
        by_cases hlt : k < ys.length
        · obtain ⟨b3, o3, rfl, -, a3⟩ := num_at hx5 hlt
          obtain ⟨b4, o4, rfl, -, a4⟩ := num_at hx6 hlt
          have hly : (k : Int) < (ys.length : Int) := by omega
          go_wp2
          go_quiet (fail)
          go_wp2
          go_roundw
          case rel => exact ⟨k + 1, _, by omega, by go_num, rfl⟩
          case measure => simp [intOf]; omega
        · have hly : ¬ (k : Int) < (ys.length : Int) := by omega
          go_wp2
          go_ret
          exact ⟨rfl, below_drewN hB6' _⟩

/-! ### THE ROW's STEP -/
set_option maxRecDepth 100000 in
theorem lifted (os : Os) (started : os.Started) (H : Type) (enc : TypeId × Value → H) 
    (F : Stop.Interp) : ReturnsInHanded {} Try.checked os 11 .any ((Rows.OpenSpec.upto Rows.pbufListsSpec).pre6 enc Try.prog Try.f11 Rows.pbufListsUptoRow.domain false) (((Rows.OpenSpec.upto Rows.pbufListsSpec).at F).post enc Try.prog Try.f11 false true false false) := by
  refine returnsInHanded_of_cond_sized (C := Try.checked) (s := Rows.OpenSpec.upto Rows.pbufListsSpec) (k := Rows.uptoSmall) rfl own started (by kernel_rfl) Try.func11
    (OpenSpec.witness (enc := enc) (C := Try.checked) (s := Rows.OpenSpec.upto Rows.pbufListsSpec) (k := Rows.uptoSmall) rfl false ⟨#[], #[.slice none 0 0, .int .i64 0], []⟩ 8 (by kernel_rfl) (by kernel_rfl) (by kernel_rfl)
      (x := ([.nil, .lit (.int .i64 0)], [], [])) (by kernel_rfl) rfl (by kernel_rfl)) ?_
  intro W base args ds gs before hval0 hW hcnd hsmall hsz0 _
  have hval : ∀ (j : Nat) t v, Try.f11.params[j]? = some t → args[j]? = some v → Value.okWide Try.prog W .any base t v := hval0
  have hW' := hW
  obtain ⟨p, q, hA0, hV, rfl, hfz, hnd⟩ := hW
  have hA : DataW.TrodAll enc Try.prog W 0 (fun _ => true) true Try.f11.params.toList args.toList ds p := hA0
  have hsz : (DataW.weightsEach Try.prog (Try.f11.params.toList ++ Rows.pbufListsSpec.plain.varTypes Try.prog) (ds ++ gs)).all (· ≤ reachBytes) = true := hsz0
  rw [Try.params11] at hA hval hsz
  obtain ⟨v0, vs0, d0, ds0, p0, q0, hargs, rfl, rfl, h0, r0⟩ := trodAll_cons hA
  obtain ⟨v1, vs1, d1, ds1, p1, q1, rfl, rfl, rfl, h1, r1⟩ := trodAll_cons r0
  obtain ⟨rfl, rfl, rfl⟩ := trodAll_nil r1
  obtain rfl : args = #[v0, v1] := by cases args; simp_all
  obtain ⟨rfl, rfl⟩ := trodVars_none hV
  clear hA0 hval0 hsz0
  have k0 := h0
  have lt0 : ∀ x ∈ p0, x.block < W.heap.size := by obtain ⟨m, hm⟩ := k0; exact DataW.trod_lt m _ _ _ hm
  have wt0 : ∀ n ∈ d0.weights Try.prog 32, n ≤ reachBytes := fun n hn => by simpa using List.all_eq_true.1 hsz _ (DataW.weights_mem_each (j := 0) (t := 32) rfl rfl n hn)
  obtain ⟨A0, cap0, l0, rfl, hc0, hr0, hb0, hf0, hk0⟩ := open_fields (hval 0 32 v0 rfl rfl) h0 wt0 (fun _ => rfl)
  obtain ⟨a1, rfl, rfl, rfl, w1⟩ := open_int Try.underlying3 (hval 1 3 v1 rfl rfl) h1
  have hsm := of_decide_eq_true hsmall
  have hbk0 : bulkF l0 + 1 ≤ 1048576 := by simp only [List.append_nil, Rows.uptoBulkAll] at hsm; omega
  clear hsm
  refine (walk W A0 cap0 l0 hc0 hr0 hb0 hf0 hbk0 a1 w1).mono fun e W' ⟨he, bel⟩ => ?_
  subst he
  exact ⟨_, rfl, _, _, _, [], _, [], hW', trodAll_mk1 (shut_bool Try.underlying4 _), (trodAll_cons_mk (Below.trod laidOut (by kernel_rfl) (of_decide_eq_true (by kernel_rfl)) k0 bel lt0) (trodAll_cons_mk (shut_int Try.underlying3 w1) trodAll_mk0)), rfl, bel.frame _, fun h => by cases h⟩

theorem proved : Rows.PbufListsUptoSaid :=
  OpenClaim.holds_of_cond 11 Try.f11 rfl rfl rfl rfl rfl rfl rfl ⟨rfl, rfl, rfl, rfl, rfl⟩ rfl rfl rfl rfl rfl (by kernel_rfl) Try.func11 (by kernel_rfl)
    (of_decide_eq_true (by kernel_rfl)) (by unfold Func.isWrapper; first | (rw [if_pos (by decide +kernel)]; kernel_rfl) | (rw [if_neg (by decide +kernel)]; exact ⟨rfl, rfl⟩))
    (fun os started H enc _ F => lifted os started H enc F)
#print axioms proved
end Go.Proofs.Ythhanpfcnaokpaa.pbufLists
