/- The statement PbufVarints: Varint and ReadVarint answer as the document's own, at every number and every place of any bytes, and leave the bytes alone. No condition. -/
import Derived.Test.YthhanpfcnaokpaaOpen
namespace Go.Proofs.Ythhanpfcnaokpaa.pbufVarints
open Go.ChangeShapes Go.WideShapes Go.ChangeAt Go.RowKit
set_option linter.unusedVariables false

theorem rdvar_n {B n : Nat} {A : Option Addr} {cap : Nat} {l : List UInt8} {p : Int} {w : World} {x : Nat} {m er : Int} (hr : Hid (rvar l p = (x, m, er))) (hn : Hid (n = l.length)) (hcap : n ≤ cap) (hm : cap ≤ maxLen) (hb : RB w B A l) :
    Calls Try.prog 15 #[.slice A n cap, .int .i64 p] w fun e w' => e = .returned (.tuple #[.int .u64 x, .int .i64 m, .int .i64 er]) ∧ w = w' := by
  have h := hn.out
  subst h
  exact rdvar_at hr hcap hm hb
theorem sameb_n {B B' n n' : Nat} {A A' : Option Addr} {cap cap' : Nat} {a : List UInt8} {w : World} (ha : RB w B A a) (hb : RB w B' A' a) (hn : Hid (n = a.length)) (hn' : Hid (n' = a.length)) (hm : cap ≤ maxLen) (hl : n ≤ cap) :
    Calls Try.prog 17 #[.slice A n cap, .slice A' n' cap'] w (SaysQ w true) := by
  have h := hn.out
  have h' := hn'.out
  subst h h'
  exact sameb_eq ha hb (Nat.le_trans hl hm)

theorem walk (w : World) (a0 : Int) (w0 : (Lit.int .u64 a0).wf = true) (A1 : Option Addr) (cap1 : Nat) (l1 : List UInt8) (hc1 : l1.length ≤ cap1) (hr1 : cap1 ≤ 140737488351232) (hb1 : RB w w.heap.size A1 l1) (a2 : Int) (w2 : (Lit.int .i64 a2).wf = true) :
    Calls Try.prog 4 #[.int .u64 a0, .slice A1 l1.length cap1, .int .i64 a2] w fun e w' => e = .returned (.bool true) ∧ Below w.heap.size w w' := by
  have hbd := bounds_u64 w0
  obtain ⟨x, rfl⟩ := Int.eq_ofNat_of_zero_le hbd.1
  have HX : Hid (x < 18446744073709551616) := by show _ < _; omega
  clear hbd w0 w2
  go_enter Try.func4, Try.ntmps4
  go_wp2_with fail
  refine (awake_any _).mono ?_
  rintro e W1 ⟨rfl, hB1⟩
  go_wp2_with fail
  refine (varint_any x HX.out W1).mono ?_
  rintro e W2 ⟨v2, rfl, ho2, hB2⟩
  have hB2' := hB1.trans (hB2.mono hB1.size)
  go_wp2_with fail
  refine (lent_any A1 cap1 l1 W2 ((hb1.below hB2').more hB2'.size) (by omega)).mono ?_
  rintro e W3 ⟨v3, rfl, ho3, ⟨A3, c3, hv3⟩, hB3⟩
  have hB3' := hB2'.trans (hB3.mono hB2'.size)
  have ho2' := OB.below ho2 hB3 (Nat.le_refl _)
  obtain ⟨A2, n2, c2, rfl, hn2, hl2, hm2, hr2⟩ := ho2'.form2
  subst hv3
  dsimp only at *
  obtain ⟨y, n, er, hr⟩ : ∃ y n er, rvar l1 a2 = (y, n, er) := ⟨_, _, _, rfl⟩
  have HR := Lib.hid hr
  clear hr
  have hl3 := ho3.form
  have hr3 : RB W3 W3.heap.size A3 l1 := by
    obtain ⟨A, c, h1, h2, h3, h4⟩ := hl3
    injection h1 with h1 h5 h6
    have := h4.take l1.length
    rw [h1]
    simpa using this
  have hf3 : RB W3 W3.heap.size A3 (l1 ++ [201, 202]) ∧ l1.length + 2 ≤ c3 ∧ c3 ≤ maxLen := by
    obtain ⟨A, c, h1, h2, h3, h4⟩ := hl3
    injection h1 with h1 h5 h6
    rw [h1, h6]
    exact ⟨h4, by simpa using h2, h3⟩
  clear hl3
  obtain ⟨hf3, hc3, hm3⟩ := hf3
  have hb3 := hb1.below hB3'
  go_wp2_with fail
  refine (rdvar_at HR (by omega) hm3 hr3).mono ?_
  rintro e W4 ⟨rfl, rfl⟩
  go_wp2_with fail
  refine (rrdvar_at HR hc1 (by unfold maxLen; omega) hb3).mono ?_
  rintro e W4 ⟨rfl, rfl⟩
  have HV := Lib.hid (rvar_vi x HX.out)
  go_wp2_with fail
  refine (rdvar_n HV hn2 hl2 hm2 hr2).mono ?_
  rintro e W4 ⟨rfl, rfl⟩
  go_wp2_with fail
  refine (rvarint_any x HX.out W3).mono ?_
  rintro e W4 ⟨v4, rfl, ho4, hB4⟩
  have hB4' := hB3'.trans (hB4.mono hB3'.size)
  obtain ⟨A4, n4, c4, rfl, hn4, hl4, hm4, hr4⟩ := ho4.form2
  have hr2' := hr2.below (hB4.mono (Nat.le_refl _))
  go_wp2_with fail
  refine (sameb_n hr2' hr4 hn2 hn4 hm2 hl2).mono ?_
  rintro e W5 ⟨rfl, m5, rfl⟩
  have hq : (n2 : Int) = ((vi x).length : Int) := by have := hn2.out; omega
  have HQ := Lib.hid hq
  have hq2 : (((vi x).length : Int) == (n2 : Int)) = true := by rw [hq]; simp
  clear hq
  have hf5 := ((hf3.below hB4).drewN m5)
  have hb5 := ((hb3.below (hB4.mono hB3'.size)).drewN m5)
  go_wp2_with fail
  refine (whole_true _ _ A3 A1 c3 cap1 l1 _ hf5 hb5 hm3 hc3).mono ?_
  rintro e W6 ⟨rfl, m6, rfl⟩
  go_wp2
  go_ret
  exact ⟨rfl, below_drewN hB4' _⟩

/-! ### THE ROW's STEP -/
set_option maxRecDepth 100000 in
theorem lifted (os : Os) (started : os.Started) (H : Type) (enc : TypeId × Value → H) :
    ReturnsInHanded {} Try.checked os 4 .any (Rows.pbufVarintsSpec.pre6 enc Try.prog Try.f4 Rows.pbufVarintsRow.domain false) (Rows.pbufVarintsSpec.post enc Try.prog Try.f4 false true false false) := by
  refine returnsInHanded_of_change_sized (C := Try.checked) own started (by kernel_rfl) Try.func4
    (ChangeSpec.witness6 (enc := enc) (C := Try.checked) false ⟨#[], #[.int .u64 0, .slice none 0 0, .int .i64 0], []⟩ 8 (by kernel_rfl) (by kernel_rfl) (by kernel_rfl) (by kernel_rfl)) ?_
  intro W base args ds gs before hval0 hW hcnd hsz0 _
  have hval : ∀ (j : Nat) t v, Try.f4.params[j]? = some t → args[j]? = some v → Value.okWide Try.prog W .any base t v := hval0
  have hW' := hW
  obtain ⟨p, q, hA0, hV, rfl, hfz, hnd⟩ := hW
  have hA : DataW.TrodAll enc Try.prog W 0 (fun _ => true) true Try.f4.params.toList args.toList ds p := hA0
  have hsz : (DataW.weightsEach Try.prog (Try.f4.params.toList ++ Rows.pbufVarintsSpec.plain.varTypes Try.prog) (ds ++ gs)).all (· ≤ reachBytes) = true := hsz0
  rw [Try.params4] at hA hval hsz
  obtain ⟨v0, vs0, d0, ds0, p0, q0, hargs, rfl, rfl, h0, r0⟩ := trodAll_cons hA
  obtain ⟨v1, vs1, d1, ds1, p1, q1, rfl, rfl, rfl, h1, r1⟩ := trodAll_cons r0
  obtain ⟨v2, vs2, d2, ds2, p2, q2, rfl, rfl, rfl, h2, r2⟩ := trodAll_cons r1
  obtain ⟨rfl, rfl, rfl⟩ := trodAll_nil r2
  obtain rfl : args = #[v0, v1, v2] := by cases args; simp_all
  obtain ⟨rfl, rfl⟩ := trodVars_none hV
  clear hA0 hval0 hsz0
  obtain ⟨a0, rfl, rfl, rfl, w0⟩ := open_int Try.underlying23 (hval 0 23 v0 rfl rfl) h0
  have k1 := h1
  have lt1 : ∀ x ∈ p1, x.block < W.heap.size := by obtain ⟨m, hm⟩ := k1; exact DataW.trod_lt m _ _ _ hm
  have wt1 : ∀ n ∈ d1.weights Try.prog 24, n ≤ reachBytes := fun n hn => by simpa using List.all_eq_true.1 hsz _ (DataW.weights_mem_each (j := 1) (t := 24) rfl rfl n hn)
  obtain ⟨A1, cap1, l1, rfl, hc1, hr1, hb1⟩ := open_bytes (hval 1 24 v1 rfl rfl) h1 wt1 (fun _ => rfl)
  obtain ⟨a2, rfl, rfl, rfl, w2⟩ := open_int Try.underlying3 (hval 2 3 v2 rfl rfl) h2
  refine (walk W a0 w0 A1 cap1 l1 hc1 hr1 hb1 a2 w2).mono fun e W' ⟨he, bel⟩ => ?_
  subst he
  exact ⟨_, rfl, _, _, _, [], _, [], hW', trodAll_mk1 (shut_bool Try.underlying4 _), (trodAll_cons_mk (shut_int Try.underlying23 w0) (trodAll_cons_mk (Below.trod laidOut (by kernel_rfl) (of_decide_eq_true (by kernel_rfl)) k1 bel lt1) (trodAll_cons_mk (shut_int Try.underlying3 w2) trodAll_mk0))), rfl, bel.frame _, fun h => by cases h⟩

theorem over : Rows.pbufVarintsRow.holds Try.pinned (OpenSpec.ofChange Rows.pbufVarintsSpec) :=
  OpenClaim.holds_of_wide 4 Try.f4 rfl rfl rfl rfl rfl rfl rfl ⟨rfl, rfl, rfl, rfl, rfl⟩ rfl rfl rfl rfl rfl (by kernel_rfl) Try.func4 (by kernel_rfl)
    (of_decide_eq_true (by kernel_rfl)) (by unfold Func.isWrapper; first | (rw [if_pos (by decide +kernel)]; kernel_rfl) | (rw [if_neg (by decide +kernel)]; exact ⟨rfl, rfl⟩))
    (fun os started H enc _ => lifted os started H enc)

theorem proved : Rows.PbufVarintsSaid := over
#print axioms proved
end Go.Proofs.Ythhanpfcnaokpaa.pbufVarints
