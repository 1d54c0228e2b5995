/- tensorOf. -/
import Derived.Test.YtlhpmlknmgocoaaGreatOnDb
import Derived.Test.YtlhpmlknmgocoaaGreatMW
namespace Go.Proofs.YtlhpmlknmgocoaaGreat
set_option linter.unusedSimpArgs false
set_option linter.unusedVariables false
open Go.RowKit

theorem packF_len1 (n : Int) (l : List Int64) : (packF n l).length ≤ 1 := by unfold packF; split <;> simp
theorem nameF_len1 (n : Int) (l : List UInt8) : (nameF n l).length ≤ 1 := by unfold nameF; split <;> simp
theorem wf_of {fs : List Fld} (h : WrA fs) (hl : (wr fs).length ≤ 4194304) : Wf64 fs := fun f hf => by
  have h1 := wr_bulk fs fun f hf => (h f hf).1
  have h2 := data_len hf
  exact ⟨(h f hf).2, by omega⟩
theorem OS.new {w W : World} {g lo : Nat} (hb : Blk W g 71 #[.slice none 0 0]) (hbel : Below w.heap.size w W) (hg : w.heap.size ≤ g) (hl : g < lo) (hlo : lo ≤ W.heap.size) : OS w W g lo (.slice none 0 0) [] :=
  ⟨hb, HRow.nil _ _ _ _, hbel, hg, hl, hlo⟩
theorem OS.below {w W : World} {g lo : Nat} {v : Value} {fs : List Fld} (h : OS w W g lo v fs) : Below w.heap.size w W := h.bel
/-- a block ahead of the message's own is as it was -/
theorem OS.keep {w W W' : World} {g lo x : Nat} {v : Value} {fs : List Fld} {t : TypeId} {cs : Array Value} (h : OS w W g lo v fs) (hf : Fr W W' g v) (hb : Blk W x t cs) (hx : x < lo) (hg : x ≠ g) : Blk W' x t cs :=
  hf.blk hb hg fun e => by have := (h.own _ e).1; omega
/-- what a function that makes a message answers -/
theorem MadeD.out {w W : World} {b b' : List UInt8} {e : Ending} {W' : World} (hbel : Below w.heap.size w W) (h : MadeD W b e W') (hb : b = b') : MadeD w b' e W' := by
  subst hb
  obtain ⟨u, rfl, h1, h2⟩ := h
  exact ⟨u, rfl, h1.mono fun x hx => ⟨Nat.le_trans hbel.size hx.1, hx.2⟩, hbel.trans (h2.mono hbel.size)⟩
theorem MadeD.form {W W' : World} {b : List UInt8} {e : Ending} (h : MadeD W b e W') : ∃ A c, e = .returned (.slice A b.length c) ∧ Held W' (Inb W.heap.size W'.heap.size) (datB b) (.slice A b.length c) ∧ Below W.heap.size W W' := by
  obtain ⟨u, rfl, h1, h2⟩ := h
  obtain ⟨A, c, rfl, -⟩ := Held.form1 h1
  exact ⟨A, c, rfl, h1, h2⟩
section
variable {w : World} {S : Nat → Prop} {us : List Value}
set_option maxRecDepth 100000 in
set_option maxHeartbeats 1600000 in
theorem tensorOf_any {t : Tn} {name : List UInt8} (hl : HL w S (datT t) us) (ht : TnOk t) (hn : name.length ≤ 256) :
    Calls Tryz.prog 26 #[.string ⟨name.toArray⟩, .agg us.toArray] w (MadeD w (encW (tenF name t))) := by
  have hraw := ht.raw
  have hdl := cnt_len ht.err
  have hlen := tenF_len ht hn
  have HWF := Lib.hid (wf_of (tenF_ok name t) (by omega))
  have hfl : t.f.length ≤ 1000000 ∧ t.i.length ≤ 1000000 ∧ t.b.length ≤ 1000000 := by
    unfold rawT at hraw
    simp only [List.length_append, rawF_len, rawI_len, rawO_len] at hraw
    omega
  obtain ⟨l1, l2, l3⟩ := hfl
  have HLT := Lib.hid hl
  obtain ⟨A1, c1, A2, c2, A3, c3, A4, c4, rfl, hdm, -, -, -, b1, b2, b3, b4⟩ := hl.ten
  have hp1 := packF_len1 1 t.dims
  have hp2 := nameF_len1 8 name
  have HX : Hid (t.ty.toInt = t.ty.toInt) := Lib.hid rfl
  clear hl hlen hraw
  obtain ⟨cs, hcs⟩ : ∃ cs : Array Value, #[.int .i64 t.ty.toInt, .slice A1 t.dims.length c1, .slice A2 t.f.length c2, .slice A3 t.i.length c3, .slice A4 t.b.length c4] = cs := ⟨_, rfl⟩
  have hs0 : OS w ((w.alloc (.cells cs 55)).alloc (.cells #[.slice none 0 0] 71)) (w.heap.size + 1) (w.heap.size + 2) (.slice none 0 0) [] :=
    OS.new (Blk.new' _ _ _ (by simp)) (((Below.refl _ _).alloc (Nat.le_refl _) _).alloc (by simp) _) (by omega) (by omega) (by simp)
  have hb0 : Blk ((w.alloc (.cells cs 55)).alloc (.cells #[.slice none 0 0] 71)) w.heap.size 55 cs := (Blk.new _ _ _).alloc _
  have HC := Lib.hid (packInt_any 1 hs0 (hdm.past hs0.bel) (by omega) (by simp))
  have HCS := Lib.hid hcs
  clear hcs
  go_enter Tryz.func26, Tryz.ntmps26
  go_wp2_with fail
  rw [HCS.out]
  refine Calls.mono HC.out ?_
  rintro e W1 ⟨v1, rfl, hs1, hf1, -⟩
  have hb1 := hs0.keep hf1 hb0 (by omega) (by omega)
  rw [← HCS.out] at hb1
  have HS1 := Lib.hid hs1
  have HB1 := Lib.hid hb1
  clear hs0 hb0 HC hf1 HCS
  obtain ⟨p0, p1, p2, p3, p4, -, -, -, -, -, lp⟩ := blkc5 hb1
  clear hb1 hs1
  go_wp2_with fail
  refine Calls.mono (onumber_any 2 t.ty HS1.out (by simp; omega)) ?_
  rintro e W2 ⟨v2, rfl, hs2, hf2, -⟩
  have HB2 := Lib.hid (HS1.out.keep hf2 HB1.out (by omega) (by omega))
  have HS2 := Lib.hid hs2
  clear p0 p1 p2 p3 p4 lp HS1 HB1 hs2 hf2
  go_wp2_with fail
  refine Calls.mono (oname_any 8 HS2.out (by omega) (by simp; omega)) ?_
  rintro e W3 ⟨v3, rfl, hs3, hf3, -⟩
  have HB3 := Lib.hid (HS2.out.keep hf3 HB2.out (by omega) (by omega))
  have HS3 := Lib.hid hs3
  obtain ⟨p0, p1, p2, p3, p4, -, -, -, -, -, lp⟩ := blkc5 HB3.out
  clear HS2 HB2 hs3 hf3
  go_wp2_with fail
  refine Calls.mono (toRaw_any (HLT.out.keep (fun h => h.past HS3.out.bel)) l1 l2 l3) ?_
  rintro e W4 hmd
  obtain ⟨A5, c5, rfl, hd4, hb4⟩ := hmd.form
  have HD4 := Lib.hid hd4
  have HB4 := Lib.hid hb4
  clear hmd hd4 hb4 p0 p1 p2 p3 p4 lp
  go_wp2_with fail
  refine Calls.mono (obytes_any 9 (HS3.out.past HB4.out) (HS3.out.fresh HB4.out HD4.out) (by simp; omega)) ?_
  rintro e W5 ⟨v5, rfl, hs5, hf5, -⟩
  have he : (((([] ++ packF 1 t.dims) ++ [vF 2 (u64 t.ty)]) ++ nameF 8 name) ++ [dF 9 (rawT t)]) = tenF name t := by simp [tenF]
  rw [he] at hs5
  have HS5 := Lib.hid hs5
  clear hs5 hf5 HD4 HB4 HB3 HS3 he
  have HL5 : Hid ((tenF name t).length ≤ 2900000000000) := Lib.hid (by simp [tenF]; omega)
  go_wp2_with fail
  refine Calls.mono (odone_any HS5.out HWF.out HL5.out) ?_
  rintro e W6 hmd
  obtain ⟨A6, c6, rfl, hd6, hb6⟩ := hmd.form
  have HM := Lib.hid hmd
  clear hmd hd6 hb6
  go_wp2
  go_ret
  exact MadeD.out HS5.out.bel HM.out rfl
end
end Go.Proofs.YtlhpmlknmgocoaaGreat
