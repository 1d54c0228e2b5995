/- The statement PbufReads: Read answers as the document's own, at any bytes; what it answers is new memory, which may be written over. No condition. -/
import Derived.Test.YthhanpfcnaokpaaMut
namespace Go.Proofs.Ythhanpfcnaokpaa.pbufReads
open Go.ChangeShapes Go.WideShapes Go.ChangeAt Go.RowKit
set_option linter.unusedVariables false


theorem same_n {B B' n n' cap cap' : Nat} {A A' : Option Addr} {fs : List Fld} {w : World} (ha : RF w B A fs) (hb : RF w B' A' fs) (hn : n = fs.length) (hn' : n' = fs.length) (hm : fs.length ≤ maxLen) :
    Calls Try.prog 22 #[.slice A n cap, .slice A' n' cap'] w (SaysQ w true) := by
  subst hn hn'; exact same_eq B B' A A' cap cap' fs w ha hb hm

theorem rread_at {A : Option Addr} {cap n : Nat} {w : World} (l : List UInt8) {fs : List Fld} {er : Int} (hn : n = l.length) (hr : readE l = (fs, er)) (hcap : l.length ≤ cap) (hm : cap ≤ maxLen) (hb : RB w w.heap.size A l) :
    Calls Try.prog 21 #[.slice A n cap] w fun e w' => ∃ v, e = .returned (.tuple #[v, .int .i64 er]) ∧ OF w' w.heap.size 55 v fs ∧ Below w.heap.size w w' := by
  subst hn
  have h := rread_any A cap l w hcap hm hb
  rw [hr] at h
  exact h

/-- the loops that write over what was read -/
def RLrel (lo hi g : Nat) (W0 : World) (fs : List Fld) (ds : List Value) (i : Value) (wr : World) : Prop := ∃ k : Nat, k ≤ fs.length ∧ i = .int .i64 (k : Int) ∧ LM lo hi g W0 fs ds k wr
def RIrel (lo hi g : Nat) (W0 : World) (fs : List Fld) (ds : List Value) (k n : Nat) (j : Value) (wr : World) : Prop := ∃ m : Nat, m ≤ n ∧ j = .int .i64 (m : Int) ∧ LM lo hi g W0 fs ds k wr

set_option maxRecDepth 100000 in
set_option maxHeartbeats 1600000 in
theorem walk (w : World) (A0 : Option Addr) (cap0 : Nat) (l0 : List UInt8) (hc0 : l0.length ≤ cap0) (hr0 : cap0 ≤ 140737488351232) (hb0 : RB w w.heap.size A0 l0) :
    Calls Try.prog 5 #[.slice A0 l0.length cap0] w fun e w' => e = .returned (.bool true) ∧ Below w.heap.size w w' := by
  go_enter Try.func5, Try.ntmps5
  go_wp2_with fail
  refine (awake_any _).mono ?_
  rintro e W1 ⟨rfl, hB1⟩
  go_wp2_with fail
  refine (lent_any A0 cap0 l0 W1 ((hb0.below hB1).more hB1.size) (by omega)).mono ?_
  rintro e W2 ⟨v2, rfl, ho2, ⟨A2, c2, hv2⟩, hB2⟩
  subst hv2
  dsimp only at *
  have hl2 := ho2.form
  have hf2 : RB W2 W2.heap.size A2 (l0 ++ [201, 202]) ∧ l0.length + 2 ≤ c2 ∧ c2 ≤ maxLen := by
    obtain ⟨A, c, h1, h2, h3, h4⟩ := hl2
    injection h1 with h1 h5 h6
    rw [h1, h6]
    exact ⟨h4, by simpa using h2, h3⟩
  clear hl2 ho2
  obtain ⟨hf2, hc2, hm2⟩ := hf2
  have hr2 : RB W2 W2.heap.size A2 l0 := by have := hf2.take l0.length; simpa using this
  have hB2' := hB1.trans (hB2.mono hB1.size)
  obtain ⟨fs, er, hE⟩ : ∃ fs er, readE l0 = (fs, er) := ⟨_, _, rfl⟩
  have hfl : fs.length ≤ 4194304 := by have := readE_len l0; rw [hE] at this; exact this
  have hfd : ∀ a ∈ fs, a.data.length ≤ 4194304 := by have := readE_data l0; rw [hE] at this; exact this
  have HFD := Lib.hid hfd
  have HE := Lib.hid hE
  clear hE hfd
  go_wp2_with fail
  refine (read_at l0 rfl HE.out (by omega) hm2 hr2).mono ?_
  rintro e W3 ⟨v3, rfl, ho3, hB3⟩
  have hB3' := hB2'.trans (hB3.mono hB2'.size)
  go_wp2_with fail
  refine (read_at l0 rfl HE.out (by omega) hm2 ((hr2.below hB3).more hB3.size)).mono ?_
  rintro e W4 ⟨v4, rfl, ho4, hB4⟩
  have hB4' := hB3'.trans (hB4.mono hB3'.size)
  have hz1 := hB2'.size
  have hz2 := hB3.size
  have hz3 := hB4.size
  go_wp2_with fail
  refine (rread_at l0 rfl HE.out hc0 (by unfold maxLen; omega) ((hb0.below hB4').more hB4'.size)).mono ?_
  rintro e W5 ⟨v5, rfl, ho5, hB5⟩
  have hB5' := hB4'.trans (hB5.mono hB4'.size)
  have hz4 := hB5.size
  have hB35 := hB4.trans (hB5.mono hz3)
  obtain ⟨A3, c3, e3, hl3, hm3, hr3⟩ := (ho3.below hB35 (Nat.le_refl _)).form
  obtain ⟨A4, c4, e4, hl4, hm4, hr4⟩ := (ho4.below hB5 (Nat.le_refl _)).form
  obtain ⟨A5, c5, e5, hl5, hm5, hr5⟩ := ho5.form
  subst e3 e4 e5
  have her : (er != er) = false := by simp
  go_wp2_with fail
  refine (same_n hr3 hr5 rfl rfl (by unfold maxLen; omega)).mono ?_
  rintro e W6 ⟨rfl, m6, rfl⟩
  have hf6 := (hf2.below (hB3.trans (hB35.mono hz2))).drewN m6
  have hb6 := (hb0.below hB5').drewN m6
  go_wp2_with fail
  refine (whole_true _ _ A2 A0 c2 cap0 l0 _ hf6 hb6 hm2 hc2).mono ?_
  rintro e W7 ⟨rfl, m7, rfl⟩
  rw [World.drewN_drewN]
  have hf7 := (hf2.below (hB3.trans (hB35.mono hz2))).drewN (m6 + m7)
  have hb7 := (hb0.below hB5').drewN (m6 + m7)
  have hB7 := below_drewN hB5' (m6 + m7)
  have hB37 := below_drewN hB35 (m6 + m7)
  have ho4' := (ho4.below hB5 (Nat.le_refl _)).below (below_drewN (Below.refl W5.heap.size W5) (m6 + m7)) (Nat.le_refl _)
  have ho5' := ho5.below (below_drewN (Below.refl W5.heap.size W5) (m6 + m7)) (Nat.le_refl _)
  have hzz : (W5.drewN (m6 + m7)).heap.size = W5.heap.size := rfl
  generalize W5.drewN (m6 + m7) = W8 at *
  clear hr3 hr4 hr5 hf6 hb6
  by_cases hn : fs.length = 0
  · have hfs : fs = [] := List.eq_nil_of_length_eq_zero hn
    subst hfs
    go_wp2
    refine wp_loop_rounds 1 ?_
    rw [rounds_succ]
    obtain ⟨A4', c4', e4, -, -, hr4'⟩ := ho4'.form
    obtain ⟨A5', c5', e5, -, -, hr5'⟩ := ho5'.form
    injection e4 with e4a e4b e4c
    injection e5 with e5a e5b e5c
    subst e4a e4c e5a e5c
    go_wp2_with fail
    refine (same_n hr4' hr5' rfl rfl (by decide)).mono ?_
    rintro e W9 ⟨rfl, m9, rfl⟩
    go_wp2_with fail
    refine (whole_true _ _ A2 A0 c2 cap0 l0 _ (hf7.drewN m9) (hb7.drewN m9) hm2 hc2).mono ?_
    rintro e W10 ⟨rfl, m10, rfl⟩
    go_wp2
    go_ret
    exact ⟨rfl, below_drewN hB7 _⟩
  · obtain ⟨g, cap, ds, e3, st, hlm⟩ := LM.start (hi := W3.heap.size) (W0 := W8) (by omega) ho3 rfl hB37
    injection e3 with e3a e3b e3c
    subst e3a e3c
    go_wp2
    go_loopw [11] (fun i wr => RLrel W2.heap.size W3.heap.size g W8 fs ds i wr) (fun i _ => fs.length - (intOf i).toNat)
    case atStart => exact ⟨0, Nat.zero_le _, rfl, hlm⟩
    case round =>
      clear hlm
      obtain ⟨k, hk, rfl, hlm⟩ := hrel
      by_cases hlt : k < fs.length
      · have hkd : k < ds.length := by rw [st.len]; exact hlt
        obtain ⟨A, n, c, ld, hds, hnn, hll, hod⟩ := hlm.slice hlt hkd
        have HD := Lib.hid hds
        have hnl : n ≤ 4194304 := by rw [hnn]; exact HFD.out _ (List.getElem_mem hlt)
        clear hds hnn hll hod
        go_wp2
        go_loopw [12] (fun j wr => RIrel W2.heap.size W3.heap.size g W8 fs ds k n j wr) (fun j _ => n - (intOf j).toNat)
        case atStart => exact ⟨0, Nat.zero_le _, rfl, hlm⟩
        case round =>
          clear hlm
          obtain ⟨m, hmn, rfl, hlm⟩ := hrel
          obtain ⟨A', n', c', ld, hds, hnn, hll, hod⟩ := hlm.slice hlt hkd
          have q1 := (hlm.cells hlt hkd).1
          have hfz := (hlm.cells hlt hkd).2.2
          rw [HD.out] at hds q1
          injection hds with e1 e2 e3
          subst e1 e2 e3
          have HLD := Lib.hid hll
          clear hnn hll
          by_cases hj : m < n
          · have hjl : m < ld.length := by have := HLD.out; omega
            obtain ⟨gd, rfl, q2, f2⟩ := hod.at_ hjl
            have hx : bits .xor .u8 (ld[m].toNat : Int) 1 = ((ld[m] ^^^ 1).toNat : Int) := u8_flip ld[m] 1
            have HX := Lib.hid hx
            have HS := Lib.hid (hlm.setData st hkd HD.out hlt m (ld[m] ^^^ 1)).drew
            clear hx
            generalize ld[m] = x at *
            go_wp2
            go_region
            all_goals go_wp2
            go_roundw
            case rel => exact ⟨m + 1, by omega, by go_num, by rw [HX.out]; exact HS.out⟩
            case measure => simp [intOf]; omega
          · have hown : OB wr W2.heap.size (.slice A n c) ld := hod
            have hlen1 : ld.length + 1 ≤ 211106232532992 := by have := HLD.out; omega
            have hz0 := hlm.only.size
            go_wp2_with (at_builtin
                         go_must (refine append_byte rfl _ _ rfl hown rfl rfl rfl (77 : UInt8) rfl hlen1 (by omega) ?_; intro v9 w9 ho9 hg9 ha9)
                         have hg9' : wr.grownBy w9 ds[k].ownBlock := by rw [HD.out]; exact hg9
                         obtain ⟨A9, n9, c9, rfl, -⟩ := ho9.form2
                         obtain ⟨s1, ⟨u9, s2⟩, s3⟩ := hlm.after hkd hlt hg9'
                         rw [HD.out] at s1
                         have s4 := s3 (k * 4 + 3)
                         have s5 := s3 (k * 4)
                         clear s3)
            go_roundw
            case rel => exact ⟨k + 1, by omega, by go_num, hlm.next st hkd hlt hg9'⟩
            case measure => simp [intOf]; omega
      · have hB9 : Below W2.heap.size W8 wr := hlm.only.below (Nat.le_refl _) (by omega)
        obtain ⟨A4', c4', e4, -, -, hr4'⟩ := (ho4'.only hlm.only (Nat.le_refl _)).form
        obtain ⟨A5', c5', e5, -, -, hr5'⟩ := (ho5'.only hlm.only hz3).form
        injection e4 with e4a e4b e4c
        injection e5 with e5a e5b e5c
        subst e4a e4c e5a e5c
        have hf9 := hf7.below hB9
        have hb9 := hb7.below (hB9.mono hz1)
        have hB10 := hB7.trans (hB9.mono hz1)
        clear hlm
        go_wp2_with fail
        refine (same_n hr4' hr5' rfl rfl (by unfold maxLen; omega)).mono ?_
        rintro e W9 ⟨rfl, m9, rfl⟩
        go_wp2_with fail
        refine (whole_true _ _ A2 A0 c2 cap0 l0 _ (hf9.drewN m9) (hb9.drewN m9) hm2 hc2).mono ?_
        rintro e W10 ⟨rfl, m10, rfl⟩
        go_wp2
        go_ret
        exact ⟨rfl, below_drewN hB10 _⟩

/-! ### THE ROW's STEP -/
set_option maxRecDepth 100000 in
theorem lifted (os : Os) (started : os.Started) (H : Type) (enc : TypeId × Value → H) :
    ReturnsInHanded {} Try.checked os 5 .any (Rows.pbufReadsSpec.pre6 enc Try.prog Try.f5 Rows.pbufReadsRow.domain false) (Rows.pbufReadsSpec.post enc Try.prog Try.f5 false true false false) := by
  refine returnsInHanded_of_change_sized (C := Try.checked) own started (by kernel_rfl) Try.func5
    (ChangeSpec.witness6 (enc := enc) (C := Try.checked) false ⟨#[], #[.slice none 0 0], []⟩ 8 (by kernel_rfl) (by kernel_rfl) (by kernel_rfl) (by kernel_rfl)) ?_
  intro W base args ds gs before hval0 hW hcnd hsz0 _
  have hval : ∀ (j : Nat) t v, Try.f5.params[j]? = some t → args[j]? = some v → Value.okWide Try.prog W .any base t v := hval0
  have hW' := hW
  obtain ⟨p, q, hA0, hV, rfl, hfz, hnd⟩ := hW
  have hA : DataW.TrodAll enc Try.prog W 0 (fun _ => true) true Try.f5.params.toList args.toList ds p := hA0
  have hsz : (DataW.weightsEach Try.prog (Try.f5.params.toList ++ Rows.pbufReadsSpec.plain.varTypes Try.prog) (ds ++ gs)).all (· ≤ reachBytes) = true := hsz0
  rw [Try.params5] at hA hval hsz
  obtain ⟨v0, vs0, d0, ds0, p0, q0, hargs, rfl, rfl, h0, r0⟩ := trodAll_cons hA
  obtain ⟨rfl, rfl, rfl⟩ := trodAll_nil r0
  obtain rfl : args = #[v0] := by cases args; simp_all
  obtain ⟨rfl, rfl⟩ := trodVars_none hV
  clear hA0 hval0 hsz0
  have k0 := h0
  have lt0 : ∀ x ∈ p0, x.block < W.heap.size := by obtain ⟨m, hm⟩ := k0; exact DataW.trod_lt m _ _ _ hm
  have wt0 : ∀ n ∈ d0.weights Try.prog 24, n ≤ reachBytes := fun n hn => by simpa using List.all_eq_true.1 hsz _ (DataW.weights_mem_each (j := 0) (t := 24) rfl rfl n hn)
  obtain ⟨A0, cap0, l0, rfl, hc0, hr0, hb0⟩ := open_bytes (hval 0 24 v0 rfl rfl) h0 wt0 (fun _ => rfl)
  refine (walk W A0 cap0 l0 hc0 hr0 hb0).mono fun e W' ⟨he, bel⟩ => ?_
  subst he
  exact ⟨_, rfl, _, _, _, [], _, [], hW', trodAll_mk1 (shut_bool Try.underlying4 _), (trodAll_cons_mk (Below.trod laidOut (by kernel_rfl) (of_decide_eq_true (by kernel_rfl)) k0 bel lt0) trodAll_mk0), rfl, bel.frame _, fun h => by cases h⟩

theorem over : Rows.pbufReadsRow.holds Try.pinned (OpenSpec.ofChange Rows.pbufReadsSpec) :=
  OpenClaim.holds_of_wide 5 Try.f5 rfl rfl rfl rfl rfl rfl rfl ⟨rfl, rfl, rfl, rfl, rfl⟩ rfl rfl rfl rfl rfl (by kernel_rfl) Try.func5 (by kernel_rfl)
    (of_decide_eq_true (by kernel_rfl)) (by unfold Func.isWrapper; first | (rw [if_pos (by decide +kernel)]; kernel_rfl) | (rw [if_neg (by decide +kernel)]; exact ⟨rfl, rfl⟩))
    (fun os started H enc _ => lifted os started H enc)

theorem proved : Rows.PbufReadsSaid := over
#print axioms proved
end Go.Proofs.Ythhanpfcnaokpaa.pbufReads
