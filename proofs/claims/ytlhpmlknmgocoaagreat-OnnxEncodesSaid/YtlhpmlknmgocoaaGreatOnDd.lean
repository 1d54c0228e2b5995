/- attrOf. -/
import Derived.Test.YtlhpmlknmgocoaaGreatOnDc
import Derived.Deep.CutBlock
namespace Go.Proofs.YtlhpmlknmgocoaaGreat
set_option linter.unusedSimpArgs false
set_option linter.unusedVariables false
open Go.RowKit

section
variable {P : Program} {ops : Array Oper} {o : Oper} {a : Act} {Q : Exit → Act → World → Prop} {w : World}
/-- append_dat as one step of a region that draws its order -/
theorem step_dat {E : Prop} {K : Act → World → Prop} (T e : TypeId) (z : Value) (n bytes : Nat) (ht : P.underlying T = some (.slice e)) (hinfo : (P.info? e).map (fun i => (i.zero, i.size, i.bytes)) = some (some z, n, bytes)) (hzs : z.cells.size = n) (hn : 0 < n)
    (hgd : o.guard = none) (s x : Operand)
    (ho : o.op = .call { callee := .builtin .append, args := #[s, x], argTypes := #[T, T] }) {base : Nat} {v : Value} {m : Nat} {ds : List Dat} (hown : HRow w base e n v m ds) (hs : a.eval s = v)
    {g : Nat} (hx : a.eval x = .slice (some ⟨g, 0, none⟩) 1 1) (hgs : g = w.heap.size) (new : List Dat) (us : List Value) (hul : us.length = new.length) (hnl : new.length = n) (hone : ∀ u ∈ us, u.oneCell' = true)
    (hh : ∀ j (h : j < new.length) (h' : j < us.length), Held w (Oth base w v) new[j] us[j])
    (hlen : (m + 1) * bytes ≤ 140737488355328) (h63 : m + 1 ≤ maxLen) (hbase : base ≤ w.heap.size)
    (h : ∀ A' n' c' w', HRow w' base e n (.slice A' n' c') (m + 1) (ds ++ new) → w.grownBy w' v.ownBlock → ((Value.slice A' n' c').ownBlock = v.ownBlock ∨ ∃ g, (Value.slice A' n' c').ownBlock = some g ∧ w.heap.size ≤ g) → K (a.put o.dst (.slice A' n' c')) w') :
    if Region.wanted o (yielded ops a.tmps) = true then Oper.wp P o a (w.alloc (.cells us.toArray e)) K Q else E := by
  have hw : Region.wanted o (yielded ops a.tmps) = true := by simp [Region.wanted, hgd]
  rw [if_pos hw]
  refine wp_append_dat T e z n bytes ht hinfo hzs hn s x ho hown hs hx hgs new us hul hnl hone hh hlen h63 hbase ?_
  intro v' w' h1 h2 h3
  obtain ⟨A', c', rfl, -⟩ := h1.form
  exact h _ _ _ w' h1 h2 h3
end
theorem grown_drew1 (w : World) : w.grownBy w.drew none := ⟨rfl, rfl, rfl, Nat.le_refl _, fun _ _ _ => rfl⟩
theorem OS.drew {w W : World} {g lo : Nat} {v : Value} {fs : List Fld} (h : OS w W g lo v fs) : OS w W.drew g lo v fs :=
  ⟨h.b, h.r.grown (grown_drew1 W) (by simp), h.bel.drew, h.gw, h.gl, h.lw⟩
/-- behind the switch -/
def AFrel (w : World) (g p lo : Nat) (cs : Array Value) (fs : List Fld) (wx : World) : Prop := ∃ v, OS w wx g lo v fs ∧ Blk wx p 98 cs
section
variable {w : World} {S : Nat → Prop} {us : List Value}
set_option maxRecDepth 100000 in
set_option maxHeartbeats 3200000 in
theorem attrOf_any {a : Atr} (hl : HL w S (datA a) us) (ha : AtOk a) :
    Calls Tryz.prog 51 #[.agg us.toArray] w (MadeD w (encW (attF a))) := by
  have hnm := ha.name
  have hlen := attF_len ha
  have HWF := Lib.hid (wf_of (attF_ok a) (by omega))
  have hten := Lib.hid ha.ten
  have hmany := ha.many
  simp only [manyA, longP, Bool.or_eq_false_iff, decide_eq_false_iff_not] at hmany
  obtain ⟨⟨⟨⟨-, l1⟩, l2⟩, l3⟩, -⟩ := hmany
  have hkd : kindP a.kind = true := by
    have := ha.bad
    simp only [badA, Bool.or_eq_false_iff, Bool.not_eq_false'] at this
    exact this.1.1.1.1.1.1.1
  obtain ⟨A1, c1, A2, c2, A3, c3, A4, c4, A5, c5, A6, c6, rfl, htn, hfl, hil, b1, b2, b3, b4, b5, b6⟩ := hl.att
  obtain ⟨an, ak, af, ai, as', at', afl, ail⟩ := a
  dsimp only at *
  clear hl ha hlen
  have HF : Hid (attF ⟨an, ak, af, ai, as', at', afl, ail⟩ = (nameF 1 an ++ attK ⟨an, ak, af, ai, as', at', afl, ail⟩) ++ [vF 20 (u64 ak)]) := Lib.hid rfl
  have hk1 : (attK ⟨an, ak, af, ai, as', at', afl, ail⟩).length ≤ 1 := by
    unfold attK
    split
    · simp
    · split
      · simp
      · split
        · simp
        · split
          · simp
          · split
            · split <;> simp
            · split
              · exact packF_len1 _ _
              · simp
  have HK1 := Lib.hid hk1
  have hn1 := nameF_len1 1 an
  clear hk1
  have HT := Lib.hid htn
  obtain ⟨cs, hcs⟩ : ∃ cs : Array Value, #[.string ⟨an.toArray⟩, .int .i64 ak.toInt, .int .u32 (af.toNat : Int), .int .i64 ai.toInt, .string ⟨as'.toArray⟩, .int .i64 at'.ty.toInt, .slice A1 at'.dims.length c1, .slice A2 at'.f.length c2, .slice A3 at'.i.length c3, .slice A4 at'.b.length c4, .slice A5 afl.length c5, .slice A6 ail.length c6] = cs := ⟨_, rfl⟩
  have hs0 : OS w ((w.alloc (.cells cs 98)).alloc (.cells #[.slice none 0 0] 71)) (w.heap.size + 1) (w.heap.size + 2) (.slice none 0 0) [] :=
    OS.new (Blk.new' _ _ _ (by simp)) (((Below.refl _ _).alloc (Nat.le_refl _) _).alloc (by simp) _) (by omega) (by omega) (by simp)
  have hb0 : Blk ((w.alloc (.cells cs 98)).alloc (.cells #[.slice none 0 0] 71)) w.heap.size 98 cs := (Blk.new _ _ _).alloc _
  have HC := Lib.hid (oname_any (s := an) 1 hs0 (by omega) (by simp))
  have HCS := Lib.hid hcs
  have HCS2 := Lib.hid hcs
  clear hcs
  go_enter Tryz.func51, Tryz.ntmps51
  go_wp2_with fail
  rw [HCS.out]
  refine Calls.mono HC.out ?_
  rintro e W1 ⟨v1, rfl, hs1, hf1, -⟩
  rw [List.nil_append] at hs1
  have hb1 := hs0.keep hf1 hb0 (by omega) (by omega)
  rw [← HCS.out] at hb1
  have HS1 := Lib.hid hs1
  have HB1 := Lib.hid hb1
  clear hs0 hb0 HC hf1 HCS
  obtain ⟨kd, hkde⟩ : ∃ kd, ak.toInt = kd := ⟨_, rfl⟩
  have HKD := Lib.hid hkde
  rw [hkde] at hb1
  obtain ⟨p0, p1, p2, p3, p4, p5, p6, p7, p8, p9, p10, p11, -, -, -, -, -, -, -, -, -, -, -, -, lp⟩ := blkc12 hb1
  have HIN : Hid (∀ n : Int64, kd = n.toInt → ak = n) := Lib.hid (fun n h => Int64.toInt_inj.1 (hkde.trans h))
  have HOUT : Hid (∀ n : Int64, ¬ kd = n.toInt → ¬ ak = n) := Lib.hid (fun n h e => h (by rw [← hkde, e]))
  clear hb1 hs1 hkde
  go_upto_block 0 with fail
  go_cut [] (fun wx => AFrel w (w.heap.size + 1) w.heap.size (w.heap.size + 2) cs (nameF 1 an ++ attK ⟨an, ak, af, ai, as', at', afl, ail⟩) wx)
  case first =>
    by_cases h1 : kd = 1
    · subst h1
      have e := HIN.out 1 rfl
      subst e
      have HAK : Hid (attK ⟨an, 1, af, ai, as', at', afl, ail⟩ = [⟨2, 5, af.toNat, []⟩]) := Lib.hid rfl
      have hs2 := HS1.out.drew
      obtain ⟨A9, c9, rfl, -⟩ := hs2.r.form
      obtain ⟨k0, z0, lg⟩ := HS1.out.start
      have hx32 := af.toNat_lt
      generalize af.toNat = fv at *
      have hw : IntKind.u64.wrap (fv : Int) = (fv : Int) := by
        show (fv : Int) % 18446744073709551616 = _
        omega
      go_wp2_with fail
      go_region_law (refine step_dat 69 108 (.agg #[.int .i64 0, .int .i64 0, .int .u64 0, .slice none 0 0]) 4 48 (by kernel_rfl) info_OF rfl (by decide) rfl _ _ rfl hs2.r rfl rfl rfl (datFd ⟨2, 5, fv, []⟩) [.int .i64 2, .int .i64 5, .int .u64 fv, .slice none 0 0] rfl rfl (by simp [Value.oneCell']) (HL.get (.cons (.leaf _) (.cons (.leaf _) (.cons (.leaf _) (.cons (Held.nil _ _ _ _ _ (by unfold maxLen; omega)) .nil))))) (by omega) (by unfold maxLen; omega) hs2.lw ?_
                     intro A' n1 c' w3 ho2 hg2 ha2
                     obtain ⟨k3, z3, l3⟩ := hs2.mid hg2)
      all_goals
        go_wp2_with fail
        go_meet
        case rel =>
          obtain ⟨v', -, q1, q2, -⟩ := hs2.append ho2 hg2 ha2
          rw [HAK.out]
          exact ⟨v', q1, hs2.keep q2 (HCS2.out ▸ HB1.out.drew) (by omega) (by omega)⟩
    have e1 : (kd == 1) = false := by simpa using h1
    have N1 := Lib.hid (HOUT.out 1 h1)
    clear h1
    by_cases h2 : kd = 2
    · subst h2
      have e := HIN.out 2 rfl
      subst e
      have HAK : Hid (attK ⟨an, 2, af, ai, as', at', afl, ail⟩ = [vF 3 (u64 ai)]) := Lib.hid rfl
      go_wp2_with fail
      refine Calls.mono (onumber_any 3 ai HS1.out (by omega)) ?_
      rintro e W2 ⟨v2, rfl, hs2, hf2, -⟩
      have HQ : Hid (AFrel w (w.heap.size + 1) w.heap.size (w.heap.size + 2) cs (nameF 1 an ++ attK ⟨an, 2, af, ai, as', at', afl, ail⟩) W2) := Lib.hid (by
        rw [HAK.out]; exact ⟨v2, hs2, HS1.out.keep hf2 (HCS2.out ▸ HB1.out) (by omega) (by omega)⟩)
      clear hs2 hf2
      go_wp2
      go_meet
      case rel => exact HQ.out
    have e2 : (kd == 2) = false := by simpa using h2
    have N2 := Lib.hid (HOUT.out 2 h2)
    clear h2
    by_cases h3 : kd = 3
    · subst h3
      have e := HIN.out 3 rfl
      subst e
      have HAK : Hid (attK ⟨an, 3, af, ai, as', at', afl, ail⟩ = [dF 4 as']) := Lib.hid rfl
      have hcv : ∀ w : World, (convert 9 28 (.string ⟨as'.toArray⟩)).run Tryz.prog w = .ok (.slice (some ⟨w.heap.size, 0, none⟩) as'.length (grownCap w as'.length 0 5)) (Lib.bytesWorld w 5 ⟨as'.toArray⟩) := fun w =>
        Lib.run_convert_string_bytes w _ _ _ _ Tryz.underlying9 Tryz.underlying28 Tryz.underlying5
      have HB := Lib.hid (below_bytes W1 5 ⟨as'.toArray⟩)
      go_wp2_with fail
      refine Calls.mono (obytes_any 4 (HS1.out.past HB.out) (HS1.out.fresh HB.out (held_bytes W1 as' (by omega))) (by omega)) ?_
      rintro e W2 ⟨v2, rfl, hs2, hf2, -⟩
      have HQ : Hid (AFrel w (w.heap.size + 1) w.heap.size (w.heap.size + 2) cs (nameF 1 an ++ attK ⟨an, 3, af, ai, as', at', afl, ail⟩) W2) := Lib.hid (by
        rw [HAK.out]; exact ⟨v2, hs2, (HS1.out.past HB.out).keep hf2 ((HCS2.out ▸ HB1.out : Blk W1 w.heap.size _ cs).below HB.out (Blk.lt (HCS2.out ▸ HB1.out))) (by omega) (by omega)⟩)
      clear hs2 hf2
      go_wp2
      go_meet
      case rel => exact HQ.out
    have e3 : (kd == 3) = false := by simpa using h3
    have N3 := Lib.hid (HOUT.out 3 h3)
    clear h3
    by_cases h4 : kd = 4
    · subst h4
      have e := HIN.out 4 rfl
      subst e
      have HAK : Hid (attK ⟨an, 4, af, ai, as', at', afl, ail⟩ = [dF 5 (encW (tenF [] at'))]) := Lib.hid rfl
      go_wp2_with fail
      refine Calls.mono (tensorOf_any (name := []) (HT.out.keep (fun h => h.past HS1.out.bel)) (hten.out (by first | rfl | trivial)) (by simp)) ?_
      rintro e W2 hmd
      obtain ⟨A9, c9, rfl, hd2, hb2⟩ := hmd.form
      have HD2 := Lib.hid hd2
      have HB2 := Lib.hid hb2
      clear hmd hd2 hb2
      go_wp2_with fail
      refine Calls.mono (obytes_any 5 (HS1.out.past HB2.out) (HS1.out.fresh HB2.out HD2.out) (by omega)) ?_
      rintro e W3 ⟨v2, rfl, hs2, hf2, -⟩
      have HQ : Hid (AFrel w (w.heap.size + 1) w.heap.size (w.heap.size + 2) cs (nameF 1 an ++ attK ⟨an, 4, af, ai, as', at', afl, ail⟩) W3) := Lib.hid (by
        rw [HAK.out]; exact ⟨v2, hs2, (HS1.out.past HB2.out).keep hf2 ((HCS2.out ▸ HB1.out : Blk W1 w.heap.size _ cs).below HB2.out (Blk.lt (HCS2.out ▸ HB1.out))) (by omega) (by omega)⟩)
      clear hs2 hf2
      go_wp2
      go_meet
      case rel => exact HQ.out
    have e4 : (kd == 4) = false := by simpa using h4
    have N4 := Lib.hid (HOUT.out 4 h4)
    clear h4
    by_cases h6 : kd = 6
    · subst h6
      have e := HIN.out 6 rfl
      subst e
      have HAK : Hid (attK ⟨an, 6, af, ai, as', at', afl, ail⟩ = if afl.isEmpty then [] else [dF 7 (rawF afl)]) := Lib.hid rfl
      have hln : ∀ x : Nat, x = (rawT ⟨0, [], afl, [], []⟩).length → (x = 0 ↔ afl = []) := by
        intro x hx
        rw [hx]
        simp only [rawT, List.length_append, rawF_len, rawI_len, rawO_len]
        cases afl <;> simp
      have HLN := Lib.hid hln
      have HRT : Hid (rawT ⟨0, [], afl, [], []⟩ = rawF afl) := Lib.hid (by simp [rawT, rawI, rawO])
      clear hln
      go_wp2_with fail
      refine Calls.mono (toRaw_any (t := ⟨0, [], afl, [], []⟩) (HL.cons (.leaf _) (.cons (Held.nil _ _ _ _ _ (by unfold maxLen; omega)) (.cons (hfl.past HS1.out.bel) (.cons (Held.nil _ _ _ _ _ (by unfold maxLen; omega)) (.cons (Held.nil _ _ _ _ _ (by unfold maxLen; omega)) .nil))))) (by dsimp only; omega) (by simp) (by simp)) ?_
      rintro e W2 hmd
      obtain ⟨A9, c9, rfl, hd2, hb2⟩ := hmd.form
      rw [HRT.out] at hd2
      have HD2 := Lib.hid hd2
      have HB2 := Lib.hid hb2
      have hz := HLN.out _ rfl
      rw [HRT.out] at hz
      rw [HRT.out]
      generalize hrl : (rawF afl).length = rl at *
      clear hmd hd2 hb2 hrl
      by_cases h0 : afl = []
      · have hz0 : rl = 0 := hz.2 h0
        have HAK2 : Hid (attK ⟨an, 6, af, ai, as', at', afl, ail⟩ = []) := Lib.hid (by rw [HAK.out, if_pos (by simpa using h0)])
        subst hz0
        clear hz
        have HQ : Hid (AFrel w (w.heap.size + 1) w.heap.size (w.heap.size + 2) cs (nameF 1 an ++ attK ⟨an, 6, af, ai, as', at', afl, ail⟩) W2) := Lib.hid (by
          rw [HAK2.out, List.append_nil]; exact ⟨_, HS1.out.past HB2.out, (HCS2.out ▸ HB1.out : Blk W1 w.heap.size _ cs).below HB2.out (Blk.lt (HCS2.out ▸ HB1.out))⟩)
        go_wp2
        go_meet
        case rel => exact HQ.out
      · have hz0 : 0 < rl := Nat.pos_of_ne_zero fun e => h0 (hz.1 e)
        have HAK2 : Hid (attK ⟨an, 6, af, ai, as', at', afl, ail⟩ = [dF 7 (rawF afl)]) := Lib.hid (by rw [HAK.out, if_neg (by simpa using h0)])
        clear hz
        go_wp2_with fail
        refine Calls.mono (obytes_any 7 (HS1.out.past HB2.out) (HS1.out.fresh HB2.out HD2.out) (by omega)) ?_
        rintro e W3 ⟨v2, rfl, hs2, hf2, -⟩
        have HQ : Hid (AFrel w (w.heap.size + 1) w.heap.size (w.heap.size + 2) cs (nameF 1 an ++ attK ⟨an, 6, af, ai, as', at', afl, ail⟩) W3) := Lib.hid (by
          rw [HAK2.out]; exact ⟨v2, hs2, (HS1.out.past HB2.out).keep hf2 ((HCS2.out ▸ HB1.out : Blk W1 w.heap.size _ cs).below HB2.out (Blk.lt (HCS2.out ▸ HB1.out))) (by omega) (by omega)⟩)
        clear hs2 hf2
        go_wp2
        go_meet
        case rel => exact HQ.out
    have e6 : (kd == 6) = false := by simpa using h6
    have N6 := Lib.hid (HOUT.out 6 h6)
    clear h6
    have hk7 : kd = 7 := by
      refine Classical.byContradiction fun h7 => ?_
      have N7 := HOUT.out 7 h7
      simp [kindP, N1.out, N2.out, N3.out, N4.out, N6.out, N7] at hkd
    subst hk7
    have e := HIN.out 7 rfl
    subst e
    have HAK : Hid (attK ⟨an, 7, af, ai, as', at', afl, ail⟩ = packF 8 ail) := Lib.hid rfl
    go_wp2_with fail
    refine Calls.mono (packI64_any 8 HS1.out (hil.past HS1.out.bel) (by omega) (by omega)) ?_
    rintro e W2 ⟨v2, rfl, hs2, hf2, -⟩
    have HQ : Hid (AFrel w (w.heap.size + 1) w.heap.size (w.heap.size + 2) cs (nameF 1 an ++ attK ⟨an, 7, af, ai, as', at', afl, ail⟩) W2) := Lib.hid (by
      rw [HAK.out]; exact ⟨v2, hs2, HS1.out.keep hf2 (HCS2.out ▸ HB1.out) (by omega) (by omega)⟩)
    clear hs2 hf2
    go_wp2
    go_meet
    case rel => exact HQ.out
  case rest =>
    obtain ⟨v2, hs2, hb2⟩ := hcut
    rw [← HCS2.out, HKD.out] at hb2
    clear p0 p1 p2 p3 p4 p5 p6 p7 p8 p9 p10 p11 lp
    obtain ⟨p0, p1, p2, p3, p4, p5, p6, p7, p8, p9, p10, p11, -, -, -, -, -, -, -, -, -, -, -, -, lp⟩ := blkc12 hb2
    have HS2 := Lib.hid hs2
    have hk1 := HK1.out
    have HNO := Lib.hid (fun hm => onumber_any 20 ak HS2.out hm)
    rw [HKD.out] at HNO
    clear hs2 hb2
    go_wp2_with fail
    refine Calls.mono (HNO.out (by rw [List.length_append]; omega)) ?_
    rintro e W3 ⟨v3, rfl, hs3, hf3, -⟩
    rw [← HF.out] at hs3
    have HS3 := Lib.hid hs3
    have HL5 : Hid ((attF ⟨an, ak, af, ai, as', at', afl, ail⟩).length ≤ 2900000000000) := Lib.hid (by rw [HF.out, List.length_append, List.length_append]; simp; omega)
    clear hs3 hf3 HNO p0 p1 p2 p3 p4 p5 p6 p7 p8 p9 p10 p11 lp
    go_wp2_with fail
    refine Calls.mono (odone_any HS3.out HWF.out HL5.out) ?_
    rintro e W6 hmd
    obtain ⟨A9, c9, rfl, hd6, hb6⟩ := hmd.form
    have HM := Lib.hid hmd
    clear hmd hd6 hb6
    go_wp2
    go_ret
    exact MadeD.out HS3.out.bel HM.out rfl
end
end Go.Proofs.YtlhpmlknmgocoaaGreat
