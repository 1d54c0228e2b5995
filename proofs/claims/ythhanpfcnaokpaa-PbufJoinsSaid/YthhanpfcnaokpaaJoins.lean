/- The statement PbufJoins: two messages, one behind the other, are one; of all numbers' lists, too. No condition. -/
import Derived.Test.YthhanpfcnaokpaaJoinK
namespace Go.Proofs.Ythhanpfcnaokpaa.pbufJoins
open Go.ChangeShapes Go.WideShapes Go.ChangeAt Go.RowKit
set_option linter.unusedVariables false

set_option maxHeartbeats 12000000 in
theorem walk (w : World) (A0 : Option Addr) (cap0 : Nat) (l0 : List UInt8) (hc0 : l0.length ≤ cap0) (hr0 : cap0 ≤ 140737488351232) (hb0 : RB w w.heap.size A0 l0)
    (A1 : Option Addr) (cap1 : Nat) (l1 : List UInt8) (hc1 : l1.length ≤ cap1) (hr1 : cap1 ≤ 140737488351232) (hb1 : RB w w.heap.size A1 l1) (a2 : Int) (w2 : (Lit.int .i64 a2).wf = true) :
    Calls Try.prog 9 #[.slice A0 l0.length cap0, .slice A1 l1.length cap1, .int .i64 a2] w fun e w' => e = .returned (.bool true) ∧ Below w.heap.size w w' := by
  clear w2
  go_enter Try.func9, Try.ntmps9
  go_wp2_with fail
  refine (awake_any _).mono ?_
  rintro e W1 ⟨rfl, hB1⟩
  by_cases hA : 4194304 < l0.length
  · go_wp2
    go_ret
    exact ⟨rfl, hB1⟩
  have hA' : l0.length ≤ 4194304 := by omega
  have hsub : IntKind.i64.wrap (4194304 - (l0.length : Int)) = 4194304 - (l0.length : Int) := IntWalk.i64_in _ (by omega)
  by_cases hL : 4194304 < l0.length + l1.length
  · have hL' : 4194304 - (l0.length : Int) < (l1.length : Int) := by omega
    go_wp2
    go_ret
    exact ⟨rfl, hB1⟩
  have hL' : (l1.length : Int) ≤ 4194304 - (l0.length : Int) := by omega
  obtain ⟨fs, e0, hE0⟩ : ∃ fs er, readE l0 = (fs, er) := ⟨_, _, rfl⟩
  obtain ⟨gs, e1, hE1⟩ : ∃ fs er, readE l1 = (fs, er) := ⟨_, _, rfl⟩
  obtain ⟨hs, e2, hE2⟩ : ∃ fs er, readE (l0 ++ l1) = (fs, er) := ⟨_, _, rfl⟩
  have HE0 := Lib.hid hE0
  have HE1 := Lib.hid hE1
  have HE2 := Lib.hid hE2
  have HC0 := Lib.hid (read_cases hA' hE0)
  have HC1 := Lib.hid (read_cases (by omega) hE1)
  have HC2 := Lib.hid (read_cases (by rw [List.length_append]; omega) hE2)
  clear hE0 hE1 hE2
  go_wp2_with fail
  refine (read_at l0 rfl HE0.out hc0 (by unfold maxLen; omega) ((hb0.below hB1).more hB1.size)).mono ?_
  rintro e W2 ⟨v2, rfl, ho2, hB2⟩
  have hB2' := hB1.trans (hB2.mono hB1.size)
  go_wp2_with fail
  refine (read_at l1 rfl HE1.out hc1 (by unfold maxLen; omega) ((hb1.below hB2').more hB2'.size)).mono ?_
  rintro e W3 ⟨v3, rfl, ho3, hB3⟩
  have hB3' := hB2'.trans (hB3.mono hB2'.size)
  have hz3 := hB3'.size
  have ho2a := ho2.below hB3 (Nat.le_refl _)
  obtain ⟨A2, n2, c2, rfl, hn2, hl2, hm2, -⟩ := ho2a.form2
  replace hn2 := Lib.hid hn2
  obtain ⟨A3, n3, c3, rfl, hn3, hl3, hm3, -⟩ := ho3.form2
  replace hn3 := Lib.hid hn3
  go_wp2_with (first
    | (at_builtin; refine append_bytes rfl _ _ rfl (OB.made W3 W3.heap.size (Nat.le_refl _)) rfl l0 rfl rfl (((hb0.below hB3').more hB3'.size).alloc (Nat.le_refl _) _) (by simp; omega) (by simp) ?_; intro v4 w4 ho4 hg4 ha4
       have hB4 : Below W3.heap.size W3 w4 := ((Below.refl _ _).alloc (Nat.le_refl _) _).grown hg4 (by simp) (by simp [Value.ownBlock]))
    | (at_builtin
       go_must (refine append_bytes rfl _ _ rfl ho4 rfl l1 rfl rfl (((hb1.below (hB3'.trans (hB4.mono hB3'.size))).more (Nat.le_trans hB3'.size hB4.size))) (by simp; omega) hB4.size ?_; intro v5 w5 ho5 hg5 ha5)
       have hB5 : Below W3.heap.size W3 w5 := grown_below ho4 hg5 hB4.size (Nat.le_refl _) hB4
       obtain ⟨A5, n5, c5, rfl, hn5, hl5, hm5, hr5⟩ := ho5.form2))
  have hB5' := hB3'.trans (hB5.mono hB3'.size)
  refine (read_at (l0 ++ l1) (by rw [hn5.out]; simp) HE2.out (by have := hn5.out; simp at this ⊢; omega) hm5 (by simpa using hr5)).mono ?_
  rintro e W6 ⟨v6, rfl, ho6, hB6⟩
  have hB6' := hB5'.trans (hB6.mono hB5'.size)
  have hB36 := hB5.trans (hB6.mono hB5.size)
  obtain ⟨A6, n6, c6, rfl, hn6, hl6, hm6, hr6⟩ := ho6.form2
  replace hn6 := Lib.hid hn6
  obtain ⟨A2', n2', c2', e2e, -, -, -, hr2⟩ := (ho2a.below hB36 (Nat.le_refl _)).form2
  obtain ⟨A3', n3', c3', e3e, -, -, -, hr3⟩ := (ho3.below hB36 (Nat.le_refl _)).form2
  injection e2e with i1 i2 i3
  subst i1 i2 i3
  injection e3e with i1 i2 i3
  subst i1 i2 i3
  rcases HC0.out with h0 | ⟨h0, h0'⟩
  · subst h0
    rcases HC1.out with h1 | ⟨h1, h1'⟩
    · subst h1
      have hJ := read_join (by omega) HE0.out (b := l1)
      rw [HE1.out, HE2.out] at hJ
      obtain ⟨hJ1, hJ2⟩ : hs = fs ++ gs ∧ e2 = 0 := by simpa using hJ
      clear hJ
      subst hJ1 hJ2
      have hk0 := bulk_read hA' HE0.out
      have hk1 := bulk_read (by omega) HE1.out
      have hk2 := bulk_read (by rw [List.length_append]; omega) HE2.out
      have hf0 : fs.length ≤ 4194304 := by have := readE_len l0; rw [HE0.out] at this; exact this
      have hf1 : gs.length ≤ 4194304 := by have := readE_len l1; rw [HE1.out] at this; exact this
      go_wp2_with (first
        | (at_builtin; refine append_fields 32 40 (by kernel_rfl) info_f rfl _ _ rfl (OFD.made W6 W6.heap.size _ (Nat.le_refl _)) rfl fs rfl hn2.out (hr2.below ((Below.refl _ _).alloc (Nat.le_refl _) _)) (by simp; omega) (by simp) (Nat.le_refl _) ?_; intro v7 w7 ho7 hg7 hb7
           have hB7 : Below W6.heap.size W6 w7 := ((Below.refl _ _).alloc (Nat.le_refl _) _).trans hb7)
        | (at_builtin
           go_must (refine append_fields 32 40 (by kernel_rfl) info_f rfl _ _ rfl ho7 rfl gs rfl hn3.out (hr3.below hB7) (by simp; omega) hB7.size (Nat.le_refl _) ?_; intro v8 w8 ho8 hg8 hb8)
           have hB8 : Below W6.heap.size W6 w8 := hB7.trans hb8
           obtain ⟨A8, n8, c8, rfl, hn8, hl8, hm8, hr8⟩ := ho8.form hB8.size
           replace hn8 := Lib.hid hn8))
      have hS6 := hB6'.size
      have hq6 := hB6'
      have hS8 := hB8.size
      clear HE0 HE1 HE2 HC0 HC1 HC2 hb0 hb1 ho2 ho3 ho2a ho4 ho5 ho6 ho7 ho8 hg4 ha4 hg5 ha5 hg7 hb7 hg8 hb8 hB1 hB2 hB3 hB4 hB5 hB6 hB2' hB3' hB5' hB6' hB36 hB7
      go_wp2_with fail
      refine (ints_both fs a2 hn2.out hl2 hm2 ((hr2.below hB8).more hS8) (by omega)).mono ?_
      rintro e W9 ⟨⟨A9, n9, c9, h9, rfl, hk9⟩, hB9⟩
      have hB9' : Below W6.heap.size W6 W9 := hB8.trans (hB9.mono hS8)
      have hS9 := hB9'.size
      go_wp2_with fail
      refine (ints_both gs a2 hn3.out hl3 hm3 ((hr3.below hB9').more hS9) (by omega)).mono ?_
      rintro e W10 ⟨⟨A10, n10, c10, h10, rfl, hk10⟩, hB10⟩
      have hB10' : Below W6.heap.size W6 W10 := hB9'.trans (hB10.mono hS9)
      have hS10 := hB10'.size
      go_wp2_with fail
      refine (ints_both (fs ++ gs) a2 hn6.out hl6 hm6 ((hr6.below hB10').more hS10) (by omega)).mono ?_
      rintro e W11 ⟨⟨A11, n11, c11, h11, rfl, hk11⟩, hB11⟩
      have hB11' : Below W6.heap.size W6 W11 := hB10'.trans (hB11.mono hS10)
      have hr8' := hr8.below (hB9.trans ((hB10.trans (hB11.mono hB10.size)).mono hB9.size))
      have hr6' := hr6.below hB11'
      have hE := hq6.trans (hB11'.mono hS6)
      have hk := ints_three hk9 hk10 hk11 (by omega) (by omega)
      have hlf : (fs ++ gs).length ≤ maxLen := by rw [List.length_append]; unfold maxLen; omega
      clear hk9 hk10 hk11 hB9 hB10 hB11 hB9' hB10' hB11' hB8 hr2 hr3 hr6 hr8 hS8 hS9 hS10 hq6 hk0 hk1 hk2 hf0 hf1 hl2 hm2 hl3 hm3
      rcases hk with ⟨rfl, rfl, rfl⟩ | ⟨rfl, rfl, rfl⟩ | ⟨rfl, rfl, rfl⟩ | ⟨rfl, rfl, rfl, hsum⟩
      all_goals
        go_wp2_with fail
        refine (equal_n hr6' hr8' hn6.out hn8.out hlf).mono ?_
        rintro e W12 ⟨rfl, m12, rfl⟩
        go_wp2
        go_ret
        exact ⟨rfl, below_drewN hE _⟩
    · subst h1
      have hJ := read_join (by omega) HE0.out (b := l1)
      rw [HE1.out, HE2.out] at hJ
      obtain ⟨hJ1, hJ2⟩ : hs = [] ∧ e2 = 6 := by simpa using hJ
      subst hJ2
      go_wp2
      go_ret
      exact ⟨rfl, hB6'⟩
  · subst h0
    subst h0'
    have hn2 := hn2.out
    simp at hn2
    rcases HC1.out with h1 | ⟨h1, h1'⟩ <;> rcases HC2.out with h2 | ⟨h2, h2'⟩ <;> subst h1 h2
    all_goals
      go_wp2
      go_ret
      exact ⟨rfl, hB6'⟩

/-! ### THE ROW's STEP -/
set_option maxRecDepth 100000 in
theorem lifted (os : Os) (started : os.Started) (H : Type) (enc : TypeId × Value → H) :
    ReturnsInHanded {} Try.checked os 9 .any (Rows.pbufJoinsSpec.pre6 enc Try.prog Try.f9 Rows.pbufJoinsRow.domain false) (Rows.pbufJoinsSpec.post enc Try.prog Try.f9 false true false false) := by
  refine returnsInHanded_of_change_sized (C := Try.checked) own started (by kernel_rfl) Try.func9
    (ChangeSpec.witness6 (enc := enc) (C := Try.checked) false ⟨#[], #[.slice none 0 0, .slice none 0 0, .int .i64 0], []⟩ 8 (by kernel_rfl) (by kernel_rfl) (by kernel_rfl) (by kernel_rfl)) ?_
  intro W base args ds gs before hval0 hW hcnd hsz0 _
  have hval : ∀ (j : Nat) t v, Try.f9.params[j]? = some t → args[j]? = some v → Value.okWide Try.prog W .any base t v := hval0
  have hW' := hW
  obtain ⟨p, q, hA0, hV, rfl, hfz, hnd⟩ := hW
  have hA : DataW.TrodAll enc Try.prog W 0 (fun _ => true) true Try.f9.params.toList args.toList ds p := hA0
  have hsz : (DataW.weightsEach Try.prog (Try.f9.params.toList ++ Rows.pbufJoinsSpec.plain.varTypes Try.prog) (ds ++ gs)).all (· ≤ reachBytes) = true := hsz0
  rw [Try.params9] at hA hval hsz
  obtain ⟨v0, vs0, d0, ds0, p0, q0, hargs, rfl, rfl, h0, r0⟩ := trodAll_cons hA
  obtain ⟨v1, vs1, d1, ds1, p1, q1, rfl, rfl, rfl, h1, r1⟩ := trodAll_cons r0
  obtain ⟨v2, vs2, d2, ds2, p2, q2, rfl, rfl, rfl, h2, r2⟩ := trodAll_cons r1
  obtain ⟨rfl, rfl, rfl⟩ := trodAll_nil r2
  obtain rfl : args = #[v0, v1, v2] := by cases args; simp_all
  obtain ⟨rfl, rfl⟩ := trodVars_none hV
  clear hA0 hval0 hsz0
  have k0 := h0
  have lt0 : ∀ x ∈ p0, x.block < W.heap.size := by obtain ⟨m, hm⟩ := k0; exact DataW.trod_lt m _ _ _ hm
  have wt0 : ∀ n ∈ d0.weights Try.prog 24, n ≤ reachBytes := fun n hn => by simpa using List.all_eq_true.1 hsz _ (DataW.weights_mem_each (j := 0) (t := 24) rfl rfl n hn)
  obtain ⟨A0, cap0, l0, rfl, hc0, hr0, hb0⟩ := open_bytes (hval 0 24 v0 rfl rfl) h0 wt0 (fun _ => rfl)
  have k1 := h1
  have lt1 : ∀ x ∈ p1, x.block < W.heap.size := by obtain ⟨m, hm⟩ := k1; exact DataW.trod_lt m _ _ _ hm
  have wt1 : ∀ n ∈ d1.weights Try.prog 24, n ≤ reachBytes := fun n hn => by simpa using List.all_eq_true.1 hsz _ (DataW.weights_mem_each (j := 1) (t := 24) rfl rfl n hn)
  obtain ⟨A1, cap1, l1, rfl, hc1, hr1, hb1⟩ := open_bytes (hval 1 24 v1 rfl rfl) h1 wt1 (fun _ => rfl)
  obtain ⟨a2, rfl, rfl, rfl, w2⟩ := open_int Try.underlying3 (hval 2 3 v2 rfl rfl) h2
  refine (walk W A0 cap0 l0 hc0 hr0 hb0 A1 cap1 l1 hc1 hr1 hb1 a2 w2).mono fun e W' ⟨he, bel⟩ => ?_
  subst he
  exact ⟨_, rfl, _, _, _, [], _, [], hW', trodAll_mk1 (shut_bool Try.underlying4 _), (trodAll_cons_mk (Below.trod laidOut (by kernel_rfl) (of_decide_eq_true (by kernel_rfl)) k0 bel lt0) (trodAll_cons_mk (Below.trod laidOut (by kernel_rfl) (of_decide_eq_true (by kernel_rfl)) k1 bel lt1) (trodAll_cons_mk (shut_int Try.underlying3 w2) trodAll_mk0))), rfl, bel.frame _, fun h => by cases h⟩

theorem over : Rows.pbufJoinsRow.holds Try.pinned (OpenSpec.ofChange Rows.pbufJoinsSpec) :=
  OpenClaim.holds_of_wide 9 Try.f9 rfl rfl rfl rfl rfl rfl rfl ⟨rfl, rfl, rfl, rfl, rfl⟩ rfl rfl rfl rfl rfl (by kernel_rfl) Try.func9 (by kernel_rfl)
    (of_decide_eq_true (by kernel_rfl)) (by unfold Func.isWrapper; first | (rw [if_pos (by decide +kernel)]; kernel_rfl) | (rw [if_neg (by decide +kernel)]; exact ⟨rfl, rfl⟩))
    (fun os started H enc _ => lifted os started H enc)

theorem proved : Rows.PbufJoinsSaid := over
#print axioms proved
end Go.Proofs.Ythhanpfcnaokpaa.pbufJoins
