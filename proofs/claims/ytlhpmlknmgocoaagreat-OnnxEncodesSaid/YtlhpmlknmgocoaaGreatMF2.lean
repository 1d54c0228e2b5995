import Derived.Test.YtlhpmlknmgocoaaGreatMF1
import Derived.Test.YtlhpmlknmgocoaaGreatOnDg
import Derived.Test.YtlhpmlknmgocoaaGreatOnDb
/- The document's answer: small messages: number, block, word, bytesOf, packed, longs. -/
namespace Go.Proofs.YtlhpmlknmgocoaaGreat
set_option linter.unusedSimpArgs false
set_option linter.unusedVariables false
open Go.RowKit

theorem OB.lower {w : World} {base base' : Nat} {v : Value} {l : List UInt8} (h : OB w base v l) (hb : base' ≤ base) : OB w base' v l := by
  obtain ⟨h1, h2⟩ := h
  refine ⟨h1, ?_⟩
  rcases h2 with h2 | ⟨g, cap, cur, e, h3, h4⟩
  · exact .inl h2
  · exact .inr ⟨g, cap, cur, e, Nat.le_trans hb h3, h4⟩
theorem key8 {num : Int} (h0 : 1 ≤ num) (h1 : num ≤ 1000) : IntKind.u64.wrap (IntKind.u64.wrap num * 8) = ((num.toNat * 8 : Nat) : Int) := by
  show ((num % 18446744073709551616) * 8) % 18446744073709551616 = _
  omega
theorem key82 {num : Int} (h0 : 1 ≤ num) (h1 : num ≤ 1000) : IntKind.u64.wrap (IntKind.u64.wrap (IntKind.u64.wrap num * 8) + 2) = ((num.toNat * 8 + 2 : Nat) : Int) := by
  show (((num % 18446744073709551616) * 8) % 18446744073709551616 + 2) % 18446744073709551616 = _
  omega
theorem wrap_len {n : Nat} (h : n ≤ 140737488355328) : IntKind.u64.wrap (n : Int) = (n : Int) := by
  show (n : Int) % 18446744073709551616 = _
  omega
/-- a row of bytes that is answered, on top of what was made on the way -/
theorem MadeB.mk {w w1 w2 : World} {v : Value} {l l' : List UInt8} (hb : Below w.heap.size w w1) (h : OB w2 w1.heap.size v l) (hb2 : Below w1.heap.size w1 w2) (e : l' = l) : MadeB w l' (.returned v) w2 := by
  subst e
  exact ⟨v, rfl, h.lower hb.size, hb.trans (hb2.mono hb.size)⟩
section
variable {w : World} {S : Nat → Prop} {v : Value}
set_option maxRecDepth 100000 in
theorem fnumber_any (num : Int) (h0 : 1 ≤ num) (h1 : num ≤ 1000) (x : Nat) (hx : x < 18446744073709551616) :
    Calls Tryz.prog 18 #[.int .i64 num, .int .u64 (x : Int)] w (MadeB w (wr [vF num x])) := by
  have HM : Hid (wr [vF num x] = vi (num.toNat * 8) ++ vi x) := Lib.hid (by rw [wr_one]; simp [wrF, vF])
  have HK := Lib.hid (key8 h0 h1)
  have HY : Hid (num.toNat * 8 < 18446744073709551616) := Lib.hid (by omega)
  have hv1 := (vi_len (num.toNat * 8)).1
  have hv2 := (vi_len x).1
  have HX := Lib.hid hx
  generalize num.toNat * 8 = y at *
  clear h0 h1 hx
  go_enter Tryz.func18, Tryz.ntmps18
  go_wp2_with fail
  refine Calls.mono (rvarint_at y HK.out HY.out) ?_
  rintro e w1 ⟨v1, rfl, ho1, hb1⟩
  obtain ⟨A1, n1, c1, rfl, -⟩ := ho1.form2
  go_wp2_with fail
  refine Calls.mono (rvarint_at x rfl HX.out) ?_
  rintro e w2 ⟨v2, rfl, ho2, hb2⟩
  obtain ⟨A2, n2, c2, rfl, hn2, hl2, hq2, hr2⟩ := ho2.form2
  have hown := OB.below ho1 hb2 (Nat.le_refl _)
  have hbel := hb1.trans (hb2.mono hb1.size)
  have hz := hbel.size
  go_wp2_with (at_builtin
               go_must (refine append_bytes rfl _ _ rfl hown rfl (vi x) rfl hn2.out hr2 (by omega) hz ?_; intro v4 w4 ho4 hg4 ha4))
  go_ret
  exact ⟨_, rfl, by rw [HM.out]; exact ho4, grown_below hown hg4 hz (Nat.le_refl _) hbel⟩
theorem fnumber_at (num : Int) (h0 : 1 ≤ num) (h1 : num ≤ 1000) (x : Nat) {t : Int} (ht : t = (x : Int)) (hx : x < 18446744073709551616) :
    Calls Tryz.prog 18 #[.int .i64 num, .int .u64 t] w (MadeB w (wr [vF num x])) := by
  subst ht; exact fnumber_any num h0 h1 x hx
set_option maxRecDepth 100000 in
theorem fblock_any {b : List UInt8} (num : Int) (h0 : 1 ≤ num) (h1 : num ≤ 1000) (hv : Held w S (datB b) v) (hl : b.length ≤ 140737488355328) :
    Calls Tryz.prog 13 #[.int .i64 num, v] w (MadeB w (wr [dF num b])) := by
  obtain ⟨A, c, rfl, h2, h3, h4⟩ := hv.dv
  have HM : Hid (wr [dF num b] = (vi (num.toNat * 8 + 2) ++ vi b.length) ++ b) := Lib.hid (by rw [wr_one]; simp [wrF, dF])
  have HK := Lib.hid (key82 h0 h1)
  have HW := Lib.hid (wrap_len hl)
  have HY : Hid (num.toNat * 8 + 2 < 18446744073709551616) := Lib.hid (by omega)
  have HN : Hid (b.length < 18446744073709551616) := Lib.hid (by omega)
  have hv1 := (vi_len (num.toNat * 8 + 2)).1
  have hv2 := (vi_len b.length).1
  generalize num.toNat * 8 + 2 = y at *
  obtain ⟨n, hn⟩ : ∃ n, b.length = n := ⟨_, rfl⟩
  have HE := Lib.hid hn.symm
  rw [hn] at HM HW HN hv2 h2 hl ⊢
  clear h0 h1 hv hn
  go_enter Tryz.func13, Tryz.ntmps13
  go_wp2_with fail
  refine Calls.mono (rvarint_at y HK.out HY.out) ?_
  rintro e w1 ⟨v1, rfl, ho1, hb1⟩
  obtain ⟨A1, n1, c1, rfl, -⟩ := ho1.form2
  go_wp2_with fail
  refine Calls.mono (rvarint_at n (by first | rfl | exact HW.out) HN.out) ?_
  rintro e w2 ⟨v2, rfl, ho2, hb2⟩
  obtain ⟨A2, n2, c2, rfl, hn2, hl2, hq2, hr2⟩ := ho2.form2
  have hown := OB.below ho1 hb2 (Nat.le_refl _)
  have hbel := hb1.trans (hb2.mono hb1.size)
  have hz := hbel.size
  have HB := Lib.hid (h4.below hbel)
  have HE2 : Hid (b.length = n) := Lib.hid HE.out.symm
  go_upto_region 3 with (at_builtin
                         go_must (refine append_bytes rfl _ _ rfl hown rfl (vi n) rfl hn2.out hr2 (by omega) hz ?_; intro v4 w4 ho4 hg4 ha4)
                         have hbel4 := grown_below hown hg4 hz (Nat.le_refl _) hbel
                         have hz4 := hbel4.size
                         obtain ⟨A4, n4, c4, rfl, hn4, hl4, hq4, hr4⟩ := ho4.form2)
  go_wp2_with (at_builtin
               go_must (refine append_bytes rfl _ _ rfl ho4 rfl b rfl HE.out (h4.below hbel4) (by rw [List.length_append, HE2.out]; omega) hz4 ?_; intro v5 w5 ho5 hg5 ha5))
  go_ret
  exact ⟨_, rfl, by rw [HM.out]; exact ho5, grown_below ho4 hg5 hz4 (Nat.le_refl _) hbel4⟩
set_option maxRecDepth 100000 in
theorem fword_any (num : Int) (h0 : 1 ≤ num) (h1 : num ≤ 1000) {s : List UInt8} (hl : s.length ≤ 140737488355328) :
    Calls Tryz.prog 15 #[.int .i64 num, .string ⟨s.toArray⟩] w (MadeB w (wr (nameF num s))) := by
  by_cases he : s = []
  · subst he
    go_enter Tryz.func15, Tryz.ntmps15
    go_wp2
    go_ret
    exact ⟨_, rfl, OB.nil _ _, Below.refl _ _⟩
  · have n0 : s.isEmpty = false := by simpa using he
    have HN : Hid (wr (nameF num s) = wr [dF num s]) := Lib.hid (by simp [nameF, he])
    have hcv : ∀ w : World, (convert 9 28 (.string ⟨s.toArray⟩)).run Tryz.prog w = .ok (.slice (some ⟨w.heap.size, 0, none⟩) s.length (grownCap w s.length 0 5)) (Lib.bytesWorld w 5 ⟨s.toArray⟩) := fun w =>
      Lib.run_convert_string_bytes w _ _ _ _ Tryz.underlying9 Tryz.underlying28 Tryz.underlying5
    have HB := Lib.hid (below_bytes w 5 ⟨s.toArray⟩)
    have HC := Lib.hid (fblock_any num h0 h1 (held_bytes w s hl) hl)
    clear h0 h1
    go_enter Tryz.func15, Tryz.ntmps15
    go_wp2_with fail
    refine Calls.mono HC.out ?_
    rintro e w1 ⟨v1, rfl, h1, h2⟩
    go_wp2
    go_ret
    exact MadeB.mk HB.out h1 h2 HN.out
def FBrel (x : Nat) (n : Nat) (w : World) (xv i out : Value) (wr : World) : Prop := ∃ k y : Nat, k ≤ n ∧ i = .int .i64 (k : Int) ∧ xv = .int .u64 (y : Int) ∧ y = x / 256 ^ k ∧ OB wr w.heap.size out (fix8 x k) ∧ Below w.heap.size w wr
set_option maxHeartbeats 400000 in
theorem fbytesOf_any (x n : Nat) (hx : x < 18446744073709551616) (hn : n ≤ 8) (w : World) :
    Calls Tryz.prog 47 #[.int .u64 (x : Int), .int .i64 (n : Int)] w (MadeB w (fix8 x n)) := by
  have HX := Lib.hid hx
  clear hx
  go_enter Tryz.func47, Tryz.ntmps47
  go_wp2
  go_loopw [0, 5, 6] (fun xv out i wr => FBrel x n w xv i out wr) (fun _ _ i _ => n - (intOf i).toNat)
  case atStart => exact ⟨0, x, Nat.zero_le _, rfl, rfl, by simp, OB.nil _ _, Below.refl _ _⟩
  case round =>
    obtain ⟨k, y, hk, rfl, rfl, hy, hown, hb⟩ := hrel
    have hlen := fix8_len x k
    have hsz := hb.size
    by_cases hlt : k < n
    · have HN := Lib.hid (u8_mod y)
      have HS := Lib.hid (fix8_succ x k)
      have HY := Lib.hid hy
      have HD := Lib.hid (show IntKind.u64.wrap ((y : Int) / 256) = ((y / 256 : Nat) : Int) from wrap_div y 256 (by rw [hy]; exact Nat.lt_of_le_of_lt (Nat.div_le_self _ _) HX.out))
      clear hy
      go_wp2_with (at_builtin; refine append_byte rfl _ _ rfl hown rfl rfl rfl _ HN.out (by omega) hsz ?_; intro v' w' ho hg ha)
      go_roundw
      case rel => exact ⟨k + 1, _, by omega, by go_num, congrArg _ HD.out, by rw [HY.out, fix8_div], by rw [HS.out, ← HY.out]; exact ho, grown_below hown hg hsz (Nat.le_refl _) hb⟩
      case measure => simp [intOf]; omega
    · obtain rfl : k = n := by omega
      clear hy
      go_wp2
      go_ret
      exact ⟨_, rfl, hown, hb⟩
theorem fbytesOf_at (x n : Nat) {t u : Int} (ht : t = (x : Int)) (hu : u = (n : Int)) (hx : x < 18446744073709551616) (hn : n ≤ 8) :
    Calls Tryz.prog 47 #[.int .u64 t, .int .i64 u] w (MadeB w (fix8 x n)) := by
  subst ht hu; exact fbytesOf_any x n hx hn w
set_option maxRecDepth 100000 in
set_option maxHeartbeats 800000 in
theorem fpacked_any {l : List Int64} (num : Int) (h0 : 1 ≤ num) (h1 : num ≤ 1000) (hv : Held w S (datI l) v) (hl : l.length ≤ 1000000) :
    Calls Tryz.prog 45 #[.int .i64 num, v] w (MadeB w (wr (packF num l))) := by
  obtain ⟨A, c, rfl, -, -, -⟩ := Held.form1 hv
  by_cases he : l = []
  · subst he
    go_enter Tryz.func45, Tryz.ntmps45
    go_wp2
    go_ret
    exact ⟨_, rfl, OB.nil _ _, Below.refl _ _⟩
  · have hpos : 0 < l.length := List.length_pos_iff.2 he
    have HP : Hid (wr (packF num l) = wr [dF num (packB l)]) := Lib.hid (by simp [packF, he])
    clear he
    have e0 : ((l.length : Int) == 0) = false := by rw [beq_eq_false_iff_ne]; omega
    go_enter Tryz.func45, Tryz.ntmps45
    go_wp2
    go_loopw [5, 6] (fun out i wr => PKrel l w out i wr) (fun _ i _ => l.length - (intOf i).toNat)
    case atStart => exact ⟨0, Nat.zero_le _, rfl, OB.nil _ _, Below.refl _ _⟩
    case round =>
      obtain ⟨k, hk, rfl, hown, hbl⟩ := hrel
      have hsz := hbl.size
      have hpl := packB_len (l.take k)
      rw [List.length_take, Nat.min_eq_left hk] at hpl
      obtain ⟨A0, n0, c0, rfl, hn0, -, -, hr0⟩ := hown.form2
      by_cases hlt : k < l.length
      · obtain ⟨b1, off, rfl, -, hc0⟩ := (hv.past hbl).int_at hlt
        have HT := Lib.hid (packB_snoc hlt)
        have HX := Lib.hid (u64_wrap l[k])
        have hx64 := Lib.hid (u64_lt l[k])
        have HV := vi_len (u64 l[k])
        generalize u64 l[k] = y at *
        generalize l[k].toInt = d at *
        have HN0 := Lib.hid hn0
        clear hn0
        go_wp2_with fail
        refine (rvarint_at y HX.out hx64.out).mono ?_
        rintro e w3 ⟨v3, rfl, ho3, hb3⟩
        obtain ⟨A3, n3, c3, rfl, hn3, hl3, hq3, hr3⟩ := ho3.form2
        have hown3 := OB.below hown hb3 (Nat.le_refl _)
        have hbel3 := hbl.trans (hb3.mono hsz)
        have hz3 := hbel3.size
        go_wp2_with (at_builtin
                     go_must (refine append_bytes rfl _ _ rfl hown3 rfl (vi y) rfl hn3.out hr3 (by omega) hz3 ?_; intro v4 w4 ho4 hg4 ha4))
        go_roundw
        case rel => exact ⟨k + 1, hlt, by go_num, by rw [HT.out]; exact ho4, grown_below hown3 hg4 hz3 (Nat.le_refl _) hbel3⟩
        case measure => simp [intOf]; omega
      · have hke : k = l.length := by omega
        subst hke
        rw [List.take_length] at hown hn0 hpl
        have HC := Lib.hid (fblock_any num h0 h1 (hown.held (by omega)) (by omega))
        clear hn0
        go_wp2_with fail
        refine Calls.mono HC.out ?_
        rintro e w1 ⟨v1, rfl, h1, h2⟩
        go_wp2
        go_ret
        exact MadeB.mk hbl h1 h2 HP.out
def LGrel (xs : List Int64) (W2 : World) (out i : Value) (wr : World) : Prop :=
  ∃ k : Nat, k ≤ xs.length ∧ i = .int .i64 (k : Int) ∧ HRow wr W2.heap.size 2 1 out k ((xs.take k).map lfI) ∧ Below W2.heap.size W2 wr
/-- data is answered; of what was there nothing has turned -/
def MadeH (W : World) (d : Dat) (e : Ending) (W' : World) : Prop := ∃ u, e = .returned u ∧ Held W' (Inb W.heap.size W'.heap.size) d u ∧ Below W.heap.size W W'
set_option maxRecDepth 100000 in
set_option maxHeartbeats 800000 in
theorem flongs_any {xs : List Int64} (hv : Held w S (datI xs) v) (hl : xs.length ≤ 1000000) :
    Calls Tryz.prog 46 #[v] w (MadeH w (datI xs)) := by
  obtain ⟨A, c, rfl, -, -, -⟩ := Held.form1 hv
  go_enter Tryz.func46, Tryz.ntmps46
  go_wp2
  go_loopw [3, 4] (fun out i wr => LGrel xs w out i wr) (fun _ i _ => xs.length - (intOf i).toNat)
  case atStart => exact ⟨0, Nat.zero_le _, rfl, HRow.nil _ _ _ _, Below.refl _ _⟩
  case round =>
    obtain ⟨k, hk', rfl, hrow, hbel⟩ := hrel
    have hz := hbel.size
    by_cases hlt' : k < xs.length
    · obtain ⟨b, off, rfl, hbb, hc1⟩ := (hv.past hbel).int_at hlt'
      have HT : Hid ((xs.take (k + 1)).map lfI = (xs.take k).map lfI ++ [lfI xs[k]]) := Lib.hid (by rw [List.take_succ_eq_append_getElem hlt', List.map_append]; rfl)
      have HL : Hid (lfI xs[k] = .leaf (.int .i64 xs[k].toInt)) := Lib.hid rfl
      go_wp2_with (at_builtin
                   go_must (refine append_dat 52 2 (.int .i64 0) 1 8 (by kernel_rfl) info_i64 rfl (by decide) rfl _ _ rfl hrow rfl rfl rfl [lfI xs[k]] [.int .i64 xs[k].toInt] rfl rfl (by simp [Value.oneCell']) (fun j hj hj' => by
                    have : j = 0 := by simp at hj; omega
                    subst this
                    show Held wr _ (lfI xs[k]) (.int .i64 xs[k].toInt)
                    rw [HL.out]
                    exact .leaf _) (by omega) (by unfold maxLen; omega) hz ?_; intro v2 w3 ho2 hg2 ha2))
      go_roundw
      case rel => exact ⟨k + 1, by omega, by go_num, by rw [HT.out]; exact ho2, hbel.grown hg2 (by omega) (fun q hq => (hrow.lt q hq).1)⟩
      case measure => simp [intOf]; omega
    · have hke : k = xs.length := by omega
      go_wp2
      go_ret
      have e1 : xs.take k = xs := by rw [hke, List.take_length]
      rw [e1] at hrow
      exact ⟨_, rfl, hrow.held (by omega), hbel⟩
end
end Go.Proofs.YtlhpmlknmgocoaaGreat

/- The document's answer: a tensor's message. -/
namespace Go.Proofs.YtlhpmlknmgocoaaGreat
set_option linter.unusedSimpArgs false
set_option linter.unusedVariables false
open Go.RowKit

def RXrel {α : Type} (enc : α → List UInt8) (pre : List UInt8) (l : List α) (W0 W : World) (out i : Value) (wr : World) : Prop :=
  ∃ k : Nat, k ≤ l.length ∧ i = .int .i64 (k : Int) ∧ OB wr W.heap.size out (pre ++ (l.take k).flatMap enc) ∧ Below W.heap.size W wr
section
variable {w : World} {S : Nat → Prop} {us : List Value}
set_option maxRecDepth 100000 in
set_option maxHeartbeats 3200000 in
theorem ftensor_any {name : List UInt8} {t : Tn} (hl : HL w S (datT t) us) (hnl : name.length ≤ 1000000) (l0 : t.dims.length ≤ 1000000) (l1 : t.f.length ≤ 1000000) (l2 : t.i.length ≤ 1000000) (l3 : t.b.length ≤ 1000000) :
    Calls Tryz.prog 16 #[.string ⟨name.toArray⟩, .agg us.toArray] w (MadeB w (wr (tenF name t))) := by
  obtain ⟨A1, c1, A2, c2, A3, c3, A4, c4, rfl, hd, hf, hi, hb, b1, b2, b3, b4⟩ := hl.ten
  have HR : Hid (rawT t = (t.f.flatMap encF ++ t.i.flatMap encI) ++ t.b.flatMap encO) := Lib.hid (by rw [← rawO_flat]; rfl)
  have HLF := Lib.hid (flat_len encF 4 (fun x => by simp [encF, fix8_len]))
  have HLI := Lib.hid (flat_len encI 8 (fun x => by simp [encI, fix8_len]))
  have HLO := Lib.hid (flat_len encO 1 (fun x => by simp [encO]))
  have HT : Hid (wr (tenF name t) = ((([] ++ wr (packF 1 t.dims)) ++ wr [vF 2 (u64 t.ty)]) ++ wr (nameF 8 name)) ++ wr [dF 9 (rawT t)]) := Lib.hid (by unfold tenF; rw [wr_app, wr_app, wr_app, List.nil_append])
  have hL1 := wr_pack_len 1 t.dims
  have hL2 : (wr [vF 2 (u64 t.ty)]).length ≤ 20 := by rw [wr_one]; exact wrF_v_len 2 _
  have hL3 := wr_name_len 8 name
  have hL4 : (wr [dF 9 (rawT t)]).length ≤ 20 + (rawT t).length := by rw [wr_one]; exact wrF_d_len 9 _
  have hRL : (rawT t).length ≤ 13000000 := by
    have h1 := HLF.out t.f; have h2 := HLI.out t.i; have h3 := HLO.out t.b
    rw [HR.out]; simp only [List.length_append]; omega
  have HU := Lib.hid (u64_wrap t.ty)
  have HU2 := Lib.hid (u64_lt t.ty)
  obtain ⟨W1, hW1⟩ : ∃ W1, w.alloc (.cells #[.int .i64 t.ty.toInt, .slice A1 t.dims.length c1, .slice A2 t.f.length c2, .slice A3 t.i.length c3, .slice A4 t.b.length c4] 55) = W1 := ⟨_, rfl⟩
  have hb1 : Blk W1 w.heap.size 55 #[.int .i64 t.ty.toInt, .slice A1 t.dims.length c1, .slice A2 t.f.length c2, .slice A3 t.i.length c3, .slice A4 t.b.length c4] := by rw [← hW1]; exact Blk.new _ _ _
  have hbel : Below w.heap.size w W1 := by rw [← hW1]; exact (Below.refl _ _).alloc (Nat.le_refl _) _
  have HC1 := Lib.hid (flongs_any (hd.past hbel) l0)
  have HBW := Lib.hid hbel
  have HF := Lib.hid (hf.past hbel)
  have HI := Lib.hid (hi.past hbel)
  have HO := Lib.hid (hb.past hbel)
  obtain ⟨f, hfe⟩ : ∃ f, t.f = f := ⟨_, rfl⟩
  obtain ⟨il, hie⟩ : ∃ f, t.i = f := ⟨_, rfl⟩
  obtain ⟨bl, hbe⟩ : ∃ f, t.b = f := ⟨_, rfl⟩
  obtain ⟨dims, hde⟩ : ∃ f, t.dims = f := ⟨_, rfl⟩
  rw [hfe] at HF l1 b2 HR hb1 hW1
  rw [hie] at HI l2 b3 HR hb1 hW1
  rw [hbe] at HO l3 b4 HR hb1 hW1
  rw [hde] at HC1 l0 b1 HT hb1 hW1 hL1
  rw [hfe, hie, hbe, hde]
  clear hfe hie hbe hde hl hd hf hi hb hbel
  generalize rawT t = raw at *
  generalize u64 t.ty = yt at *
  generalize t.ty.toInt = ti at *
  obtain ⟨L1, hE1⟩ : ∃ L, wr (packF 1 dims) = L := ⟨_, rfl⟩
  obtain ⟨L2, hE2⟩ : ∃ L, wr [vF 2 yt] = L := ⟨_, rfl⟩
  obtain ⟨L3, hE3⟩ : ∃ L, wr (nameF 8 name) = L := ⟨_, rfl⟩
  obtain ⟨L4, hE4⟩ : ∃ L, wr [dF 9 raw] = L := ⟨_, rfl⟩
  rw [hE1] at HT hL1
  rw [hE2] at HT hL2
  rw [hE3] at HT hL3
  rw [hE4] at HT hL4
  have HE1 := Lib.hid hE1
  have HE2 := Lib.hid hE2
  have HE3 := Lib.hid hE3
  have HE4 := Lib.hid hE4
  have HB1 := Lib.hid hb1
  clear hE1 hE2 hE3 hE4 hb1
  have HPW := Lib.hid hW1
  have bel1 : Below W1.heap.size W1 W1 := Below.refl _ _
  obtain ⟨p, hp⟩ : ∃ p, w.heap.size = p := ⟨_, rfl⟩
  rw [hp] at HB1
  obtain ⟨p0, p1, p2, p3, p4, -, -, -, -, -, lp⟩ := blkc5 HB1.out
  clear HPW
  go_enter Tryz.func16, Tryz.ntmps16
  go_upto_region 2 with fail
  try rw [hW1]
  try rw [hp]
  clear hW1 hp
  go_wp2_with fail
  refine Calls.mono HC1.out ?_
  rintro e W2 ⟨u2, rfl, hu2, hb2⟩
  obtain ⟨A5, c5, rfl, -⟩ := Held.form1 hu2
  have HC2 := Lib.hid (fpacked_any 1 (by omega) (by omega) hu2 l0)
  rw [HE1.out] at HC2
  have bel2 := bel1.trans (hb2.mono bel1.size)
  clear hu2 HC1
  go_wp2_with fail
  refine Calls.mono (HC2.out) ?_
  rintro e W3 ⟨v3, rfl, hm3, hb3⟩
  obtain ⟨A3, n3, c3, rfl, hn3, -, -, hr3⟩ := hm3.form2
  have bel3 := bel2.trans (hb3.mono bel2.size)
  have z3 := bel3.size
  clear p0 p1 p2 p3 p4 lp
  go_wp2_with (at_builtin
               go_must (refine append_bytes rfl _ _ rfl (OB.nil W3 W1.heap.size) rfl (L1) rfl hn3.out hr3 (by first | omega | (simp only [List.length_append, List.length_nil]; omega)) z3 ?_; intro v3' W3' ho3' hg3' ha3')
               have bel3' := grown_below (OB.nil W3 W1.heap.size) hg3' z3 (Nat.le_refl _) bel3
               obtain ⟨p0, p1, p2, p3, p4, -, -, -, -, -, lp⟩ := blkc5 (HB1.out.below bel3' HB1.out.lt)
               obtain ⟨A3', n3', c3', rfl, -, -, -, -⟩ := ho3'.form2)
  have HC3 := Lib.hid (fnumber_at (w := W3') 2 (by omega) (by omega) yt HU.out HU2.out)
  rw [HE2.out] at HC3
  go_wp2_with fail
  refine Calls.mono (HC3.out) ?_
  rintro e W4 ⟨v4, rfl, hm4, hb4⟩
  obtain ⟨A4, n4, c4, rfl, hn4, -, -, hr4⟩ := hm4.form2
  have bel4 := bel3'.trans (hb4.mono bel3'.size)
  have z4 := bel4.size
  have ho4 := OB.below ho3' hb4 (Nat.le_refl _)
  clear p0 p1 p2 p3 p4 lp
  go_wp2_with (at_builtin
               go_must (refine append_bytes rfl _ _ rfl ho4 rfl (L2) rfl hn4.out hr4 (by first | omega | (simp only [List.length_append, List.length_nil]; omega)) z4 ?_; intro v4' W4' ho4' hg4' ha4')
               have bel4' := grown_below ho4 hg4' z4 (Nat.le_refl _) bel4
               obtain ⟨p0, p1, p2, p3, p4, -, -, -, -, -, lp⟩ := blkc5 (HB1.out.below bel4' HB1.out.lt)
               obtain ⟨A4', n4', c4', rfl, -, -, -, -⟩ := ho4'.form2)
  have HC4 := Lib.hid (fword_any (w := W4') 8 (by omega) (by omega) (s := name) (by omega))
  rw [HE3.out] at HC4
  go_wp2_with fail
  refine Calls.mono (HC4.out) ?_
  rintro e W5 ⟨v5, rfl, hm5, hb5⟩
  obtain ⟨A5, n5, c5, rfl, hn5, -, -, hr5⟩ := hm5.form2
  have bel5 := bel4'.trans (hb5.mono bel4'.size)
  have z5 := bel5.size
  have ho5 := OB.below ho4' hb5 (Nat.le_refl _)
  clear p0 p1 p2 p3 p4 lp
  go_upto_region 5 with (at_builtin
                         go_must (refine append_bytes rfl _ _ rfl ho5 rfl (L3) rfl hn5.out hr5 (by first | omega | (simp only [List.length_append, List.length_nil]; omega)) z5 ?_; intro v5' W5' ho5' hg5' ha5')
                         have bel5' := grown_below ho5 hg5' z5 (Nat.le_refl _) bel5
                         obtain ⟨p0, p1, p2, p3, p4, -, -, -, -, -, lp⟩ := blkc5 (HB1.out.below bel5' HB1.out.lt)
                         obtain ⟨A5', n5', c5', rfl, -, -, -, -⟩ := ho5'.form2)
  obtain ⟨W6, hW⟩ : ∃ W, W = W5' := ⟨_, rfl⟩
  subst hW
  have HOut := Lib.hid ho5'
  have HBel := Lib.hid bel5'
  have hz6 := bel5'.size
  clear HC2 HC3 HC4 hm3 hm4 hm5 hb2 hb3 hb4 hb5 hr3 hr4 hr5 hn3 hn4 hn5 bel2 bel3 bel3' bel4 bel4' bel5 bel5' ho3' ho4 ho4' ho5 ho5' hg3' hg4' hg5' ha3' ha4' ha5' z3 z4 z5
  have HB6 := Lib.hid (HB1.out.below HBel.out HB1.out.lt)
  have HF6 := Lib.hid (HF.out.past HBel.out)
  have HI6 := Lib.hid (HI.out.past HBel.out)
  have HO6 := Lib.hid (HO.out.past HBel.out)
  clear HF HI HO
  go_wp2
  go_loopw [6, 7] (fun out i wr => RXrel encF ([]) f W6 W6 out i wr) (fun _ i _ => f.length - (intOf i).toNat)
  case atStart => exact ⟨0, Nat.zero_le _, rfl, OB.nil _ _, Below.refl _ _⟩
  case round =>
    obtain ⟨k, hk, rfl, hown, hbl⟩ := hrel
    have hsz := hbl.size
    have hpl := HLF.out (f.take k)
    rw [List.length_take, Nat.min_eq_left hk] at hpl
    clear p0 p1 p2 p3 p4 lp
    obtain ⟨p0, p1, p2, p3, p4, -, -, -, -, -, lp⟩ := blkc5 (HB6.out.below hbl HB6.out.lt)
    by_cases hlt : k < f.length
    · obtain ⟨bx, off, rfl, -, hc0⟩ := (HF6.out.past hbl).u32_at hlt
      have HTK := Lib.hid (flat_snoc encF hlt)
      have HEF : Hid (encF f[k] = fix8 f[k].toNat 4) := Lib.hid rfl
      have hx32 := f[k].toNat_lt
      generalize encF f[k] = ef at *
      generalize f[k].toNat = y at *
      have HWR : Hid (IntKind.u64.wrap (y : Int) = (y : Int)) := Lib.hid (by show (y : Int) % 18446744073709551616 = _; omega)
      have HY : Hid (y < 18446744073709551616) := Lib.hid (by omega)
      have hl4 := fix8_len y 4
      go_wp2_with fail
      refine Calls.mono (fbytesOf_at y 4 (by first | rfl | exact HWR.out) (by rfl) HY.out (by omega)) ?_
      rintro e w3 ⟨v3, rfl, ho3, hb3⟩
      obtain ⟨A9, n9, c9, rfl, hn9, -, -, hr9⟩ := ho3.form2
      have hown3 := OB.below hown hb3 (Nat.le_refl _)
      have hbel3 := hbl.trans (hb3.mono hsz)
      have hz3 := hbel3.size
      go_wp2_with (at_builtin
                   go_must (refine append_bytes rfl _ _ rfl hown3 rfl (fix8 y 4) rfl hn9.out hr9 (by simp only [List.length_append, List.length_nil]; omega) hz3 ?_; intro v4 w4 ho4 hg4 ha4))
      go_roundw
      case rel => exact ⟨k + 1, hlt, by go_num, by rw [HTK.out, HEF.out, ← List.append_assoc]; exact ho4, grown_below hown3 hg4 hz3 (Nat.le_refl _) hbel3⟩
      case measure => simp [intOf]; omega
    · have hke : k = f.length := by omega
      subst hke
      rw [List.take_length] at hown hpl
      rw [List.nil_append] at hown
      have HOW := Lib.hid hown
      have HBF := Lib.hid hbl
      have HPF := Lib.hid hpl
      clear hown hbl hpl hsz
      go_wp2
      go_loopw [6, 8] (fun out i wr => RXrel encI (f.flatMap encF) il W6 W6 out i wr) (fun _ i _ => il.length - (intOf i).toNat)
      case atStart => exact ⟨0, Nat.zero_le _, rfl, by simpa using HOW.out, HBF.out⟩
      case round =>
        obtain ⟨k, hk, rfl, hown, hbl⟩ := hrel
        have hsz := hbl.size
        have hpl := HLI.out (il.take k)
        rw [List.length_take, Nat.min_eq_left hk] at hpl
        clear p0 p1 p2 p3 p4 lp
        obtain ⟨p0, p1, p2, p3, p4, -, -, -, -, -, lp⟩ := blkc5 (HB6.out.below hbl HB6.out.lt)
        by_cases hlt : k < il.length
        · obtain ⟨bx, off, rfl, -, hc0⟩ := (HI6.out.past hbl).int_at hlt
          have HTK := Lib.hid (flat_snoc encI hlt)
          have HEF : Hid (encI il[k] = fix8 (u64 il[k]) 8) := Lib.hid rfl
          have HWR := Lib.hid (u64_wrap il[k])
          have HY := Lib.hid (u64_lt il[k])
          generalize encI il[k] = ef at *
          generalize u64 il[k] = y at *
          generalize il[k].toInt = dd at *
          have hl4 := fix8_len y 8
          go_wp2_with fail
          refine Calls.mono (fbytesOf_at y 8 HWR.out (by rfl) HY.out (by omega)) ?_
          rintro e w3 ⟨v3, rfl, ho3, hb3⟩
          obtain ⟨A9, n9, c9, rfl, hn9, -, -, hr9⟩ := ho3.form2
          have hown3 := OB.below hown hb3 (Nat.le_refl _)
          have hbel3 := hbl.trans (hb3.mono hsz)
          have hz3 := hbel3.size
          go_wp2_with (at_builtin
                       go_must (refine append_bytes rfl _ _ rfl hown3 rfl (fix8 y 8) rfl hn9.out hr9 (by have := HPF.out; simp only [List.length_append, List.length_nil]; omega) hz3 ?_; intro v4 w4 ho4 hg4 ha4))
          go_roundw
          case rel => exact ⟨k + 1, hlt, by go_num, by rw [HTK.out, HEF.out, ← List.append_assoc]; exact ho4, grown_below hown3 hg4 hz3 (Nat.le_refl _) hbel3⟩
          case measure => simp [intOf]; omega
        · have hke : k = il.length := by omega
          subst hke
          rw [List.take_length] at hown hpl
          have HOW2 := Lib.hid hown
          have HBF2 := Lib.hid hbl
          have HPI := Lib.hid hpl
          clear hown hbl hpl hsz
          go_wp2
          go_loopw [6, 9] (fun out i wr => RXrel encO (f.flatMap encF ++ il.flatMap encI) bl W6 W6 out i wr) (fun _ i _ => bl.length - (intOf i).toNat)
          case atStart => exact ⟨0, Nat.zero_le _, rfl, by simpa using HOW2.out, HBF2.out⟩
          case round =>
            obtain ⟨k, hk, rfl, hown, hbl⟩ := hrel
            have hsz := hbl.size
            have hpl := HLO.out (bl.take k)
            rw [List.length_take, Nat.min_eq_left hk] at hpl
            clear p0 p1 p2 p3 p4 lp
            obtain ⟨p0, p1, p2, p3, p4, -, -, -, -, -, lp⟩ := blkc5 (HB6.out.below hbl HB6.out.lt)
            by_cases hlt : k < bl.length
            · obtain ⟨bx, off, rfl, -, hc0⟩ := (HO6.out.past hbl).bool_at hlt
              have HTK := Lib.hid (flat_snoc encO hlt)
              generalize bl[k] = x at *
              have hpf := HPF.out
              have hpi := HPI.out
              cases x
              · go_wp2_with (at_builtin; refine append_byte rfl _ _ rfl hown rfl rfl rfl (0 : UInt8) rfl (by simp only [List.length_append, List.length_nil]; omega) hsz ?_; intro v' w' ho hg ha)
                go_roundw
                case rel => exact ⟨k + 1, hlt, by go_num, by rw [HTK.out, ← List.append_assoc]; exact ho, grown_below hown hg hsz (Nat.le_refl _) hbl⟩
                case measure => simp [intOf]; omega
              · go_wp2_with (at_builtin; refine append_byte rfl _ _ rfl hown rfl rfl rfl (1 : UInt8) rfl (by simp only [List.length_append, List.length_nil]; omega) hsz ?_; intro v' w' ho hg ha)
                go_roundw
                case rel => exact ⟨k + 1, hlt, by go_num, by rw [HTK.out, ← List.append_assoc]; exact ho, grown_below hown hg hsz (Nat.le_refl _) hbl⟩
                case measure => simp [intOf]; omega
            · have hke : k = bl.length := by omega
              subst hke
              rw [List.take_length] at hown hpl
              rw [← HR.out] at hown
              have HC9 := Lib.hid (fblock_any 9 (by omega) (by omega) (hown.held (by omega)) (by omega))
              rw [HE4.out] at HC9
              have hoO := HOut.out.below hbl (Nat.le_refl _)
              have bel7 := HBel.out.trans (hbl.mono hz6)
              have z7 := bel7.size
              obtain ⟨A7, n7, c7, rfl, -, -, -, -⟩ := hown.form2
              clear hown hpl
              go_wp2_with fail
              refine Calls.mono HC9.out ?_
              rintro e W8 ⟨v8, rfl, hm8, hb8⟩
              obtain ⟨A8, n8, c8, rfl, hn8, -, -, hr8⟩ := hm8.form2
              have ho8 := OB.below hoO hb8 (Nat.le_refl _)
              have bel8 := bel7.trans (hb8.mono z7)
              have z8 := bel8.size
              go_wp2_with (at_builtin
                           go_must (refine append_bytes rfl _ _ rfl ho8 rfl L4 rfl hn8.out hr8 (by simp only [List.length_append, List.length_nil]; omega) z8 ?_; intro v9 W9 ho9 hg9 ha9))
              go_ret
              exact MadeB.mk HBW.out ho9 (grown_below ho8 hg9 z8 (Nat.le_refl _) bel8) HT.out
end
end Go.Proofs.YtlhpmlknmgocoaaGreat

/- The document's answer: an attribute's message. -/
namespace Go.Proofs.YtlhpmlknmgocoaaGreat
set_option linter.unusedSimpArgs false
set_option linter.unusedVariables false
open Go.RowKit

theorem TnOk.small {t : Tn} (h : TnOk t) : t.dims.length ≤ 8 ∧ t.f.length ≤ 32768 ∧ t.i.length ≤ 32768 ∧ t.b.length ≤ 32768 := by
  have h1 := h.raw
  have h2 := cnt_len h.err
  unfold rawT at h1
  simp only [List.length_append, rawF_len, rawI_len, rawO_len] at h1
  omega
section
variable {w : World} {S : Nat → Prop} {us : List Value}
set_option maxRecDepth 100000 in
set_option maxHeartbeats 6400000 in
theorem fattrOf_any {a : Atr} (hl : HL w S (datA a) us) (ha : AtOk a) :
    Calls Tryz.prog 44 #[.agg us.toArray] w (MadeB w (wr (attF a))) := by
  obtain ⟨A1, c1, A2, c2, A3, c3, A4, c4, A5, c5, A6, c6, rfl, ht, hfl, hil, b1, b2, b3, b4, b5, b6⟩ := hl.att
  have hnm := ha.name
  have HTN := Lib.hid (fun hk => ha.ten hk)
  have hKL := attK_len ha
  have hmany := ha.many
  simp only [manyA, longP, Bool.or_eq_false_iff, decide_eq_false_iff_not] at hmany
  obtain ⟨⟨⟨⟨-, m3⟩, m6⟩, m7⟩, -⟩ := hmany
  have hkind : kindP a.kind = true := by
    have := ha.bad
    simp only [badA, Bool.or_eq_false_iff, Bool.not_eq_false'] at this
    exact this.1.1.1.1.1.1.1
  have HKP := Lib.hid hkind
  have HT : Hid (wr (attF a) = ((([] ++ wr (nameF 1 a.name)) ++ wr (attK a)) ++ vi 160) ++ vi (u64 a.kind)) := Lib.hid (by
    unfold attF; rw [wr_app, wr_app, wr_one, List.nil_append]; simp [wrF, vF, List.append_assoc])
  have hL1 := wr_name_len 1 a.name
  have HU := Lib.hid (u64_wrap a.kind)
  have HU2 := Lib.hid (u64_lt a.kind)
  have hvk := (vi_len (u64 a.kind)).1
  have hv160 := (vi_len 160).1
  have hv21 := (vi_len 21).1
  obtain ⟨an, ak, af, ai, as', at', afl, ail⟩ := a
  dsimp only at *
  clear hl ha hkind
  obtain ⟨kd, hkd⟩ : ∃ kd, ak.toInt = kd := ⟨_, rfl⟩
  have HKD : Hid (∀ n : Int64, kd = n.toInt → ak = n) := Lib.hid (fun n h => Int64.toInt_inj.1 (hkd.trans h))
  have HND : Hid (∀ n : Int64, ¬ kd = n.toInt → ¬ ak = n) := Lib.hid (fun n h e => h (by rw [← hkd, e]))
  rw [hkd] at HU ⊢
  generalize u64 ak = uk at *
  obtain ⟨W1, hW1⟩ : ∃ W1, w.alloc (.cells #[.string ⟨an.toArray⟩, .int .i64 kd, .int .u32 (af.toNat : Int), .int .i64 ai.toInt, .string ⟨as'.toArray⟩, .int .i64 at'.ty.toInt, .slice A1 at'.dims.length c1, .slice A2 at'.f.length c2, .slice A3 at'.i.length c3, .slice A4 at'.b.length c4, .slice A5 afl.length c5, .slice A6 ail.length c6] 98) = W1 := ⟨_, rfl⟩
  obtain ⟨p, hp⟩ : ∃ p, w.heap.size = p := ⟨_, rfl⟩
  have hb1 : Blk W1 p 98 #[.string ⟨an.toArray⟩, .int .i64 kd, .int .u32 (af.toNat : Int), .int .i64 ai.toInt, .string ⟨as'.toArray⟩, .int .i64 at'.ty.toInt, .slice A1 at'.dims.length c1, .slice A2 at'.f.length c2, .slice A3 at'.i.length c3, .slice A4 at'.b.length c4, .slice A5 afl.length c5, .slice A6 ail.length c6] := by rw [← hW1, ← hp]; exact Blk.new _ _ _
  have hbel : Below w.heap.size w W1 := by rw [← hW1]; exact (Below.refl _ _).alloc (Nat.le_refl _) _
  have HBW := Lib.hid hbel
  have HTT := Lib.hid (ht.keep (fun h => h.past hbel))
  have HFL := Lib.hid (hfl.past hbel)
  have HIL := Lib.hid (hil.past hbel)
  have HB1 := Lib.hid hb1
  have bel1 : Below W1.heap.size W1 W1 := Below.refl _ _
  obtain ⟨K, hK⟩ : ∃ K, wr (attK ⟨an, ak, af, ai, as', at', afl, ail⟩) = K := ⟨_, rfl⟩
  obtain ⟨L1, hE1⟩ : ∃ L, wr (nameF 1 an) = L := ⟨_, rfl⟩
  rw [hK] at HT hKL
  rw [hE1] at HT hL1
  have HK := Lib.hid hK
  have HC1 := Lib.hid (fword_any (w := W1) 1 (by omega) (by omega) (s := an) (by omega))
  rw [hE1] at HC1
  clear hkd hbel ht hfl hil hb1 hK hE1
  obtain ⟨p0, p1, p2, p3, p4, p5, p6, p7, p8, p9, p10, p11, -, -, -, -, -, -, -, -, -, -, -, -, lp⟩ := blkc12 HB1.out
  go_enter Tryz.func44, Tryz.ntmps44
  go_upto_region 2 with fail
  try rw [hW1]
  try rw [hp]
  clear hW1 hp
  go_wp2_with fail
  refine Calls.mono (HC1.out) ?_
  rintro e W2 ⟨v2, rfl, hm2, hb2⟩
  obtain ⟨A2, n2, c2, rfl, hn2, -, -, hr2⟩ := hm2.form2
  have bel2 := bel1.trans (hb2.mono bel1.size)
  have z2 := bel2.size
  clear p0 p1 p2 p3 p4 p5 p6 p7 p8 p9 p10 p11 lp
  go_upto_block 0 with (at_builtin
                        go_must (refine append_bytes rfl _ _ rfl (OB.nil W2 W1.heap.size) rfl (L1) rfl hn2.out hr2 (by first | omega | (simp only [List.length_append, List.length_nil]; omega)) z2 ?_; intro v2' W2' ho2' hg2' ha2')
                        have bel2' := grown_below (OB.nil W2 W1.heap.size) hg2' z2 (Nat.le_refl _) bel2
                        obtain ⟨p0, p1, p2, p3, p4, p5, p6, p7, p8, p9, p10, p11, -, -, -, -, -, -, -, -, -, -, -, -, lp⟩ := blkc12 (HB1.out.below bel2' HB1.out.lt)
                        obtain ⟨A2', n2', c2', rfl, -, -, -, -⟩ := ho2'.form2)
  obtain ⟨W3, hW⟩ : ∃ W, W = W2' := ⟨_, rfl⟩
  subst hW
  have HO3 := Lib.hid ho2'
  have HBel := Lib.hid bel2'
  have hz3 := bel2'.size
  have HT3 := Lib.hid (HTT.out.keep (fun h => h.past HBel.out))
  have HF3 := Lib.hid (HFL.out.past HBel.out)
  have HI3 := Lib.hid (HIL.out.past HBel.out)
  clear HC1 hm2 hb2 hr2 hn2 bel2 bel2' ho2' hg2' ha2' z2 HTT HFL HIL
  go_cut [3] (fun s wx => OB wx W1.heap.size s (([] ++ L1) ++ K) ∧ Below W1.heap.size W1 wx)
  case first =>
    by_cases h1 : kd = 1
    · subst h1
      have e := HKD.out 1 rfl
      subst e
      have HKK : Hid (vi 21 ++ fix8 af.toNat 4 = K) := Lib.hid (by rw [← HK.out]; simp [attK, wr_one, wrF])
      have ho1 := HO3.out
      have bel1 := HBel.out
      have hf4 := fix8_len af.toNat 4
      have hx32 := af.toNat_lt
      generalize af.toNat = y at *
      have HWR : Hid (IntKind.u64.wrap (y : Int) = (y : Int)) := Lib.hid (by show (y : Int) % 18446744073709551616 = _; omega)
      have HY : Hid (y < 18446744073709551616) := Lib.hid (by omega)
      go_wp2_with fail
      refine Calls.mono (rvarint_at 21 rfl (by omega)) ?_
      rintro e W4 ⟨v4, rfl, hm4, hb4⟩
      obtain ⟨A4, n4, c4, rfl, hn4, -, -, hr4⟩ := hm4.form2
      have bel4 := bel1.trans (hb4.mono bel1.size)
      have z4 := bel4.size
      have ho4 := OB.below ho1 hb4 (Nat.le_refl _)
      clear p0 p1 p2 p3 p4 p5 p6 p7 p8 p9 p10 p11 lp
      go_upto_region 6 with (at_builtin
                             go_must (refine append_bytes rfl _ _ rfl ho4 rfl (vi 21) rfl hn4.out hr4 (by first | omega | (simp only [List.length_append, List.length_nil]; omega)) z4 ?_; intro v4' W4' ho4' hg4' ha4')
                             have bel4' := grown_below ho4 hg4' z4 (Nat.le_refl _) bel4
                             obtain ⟨p0, p1, p2, p3, p4, p5, p6, p7, p8, p9, p10, p11, -, -, -, -, -, -, -, -, -, -, -, -, lp⟩ := blkc12 (HB1.out.below bel4' HB1.out.lt)
                             obtain ⟨A4', n4', c4', rfl, -, -, -, -⟩ := ho4'.form2)
      go_wp2_with fail
      refine Calls.mono (fbytesOf_at y 4 (by first | rfl | exact HWR.out) (by rfl) HY.out (by omega)) ?_
      rintro e W5 ⟨v5, rfl, hm5, hb5⟩
      obtain ⟨A5, n5, c5, rfl, hn5, -, -, hr5⟩ := hm5.form2
      have bel5 := bel4'.trans (hb5.mono bel4'.size)
      have z5 := bel5.size
      have ho5 := OB.below ho4' hb5 (Nat.le_refl _)
      go_wp2_with (at_builtin
                   go_must (refine append_bytes rfl _ _ rfl ho5 rfl (fix8 y 4) rfl hn5.out hr5 (by first | omega | (simp only [List.length_append, List.length_nil]; omega)) z5 ?_; intro v5' W5' ho5' hg5' ha5')
                   have bel5' := grown_below ho5 hg5' z5 (Nat.le_refl _) bel5
                   obtain ⟨A5', n5', c5', rfl, -, -, -, -⟩ := ho5'.form2)
      go_meet
      case rel => exact ⟨by rw [← HKK.out, ← List.append_assoc]; exact ho5', bel5'⟩
    have e1 : (kd == 1) = false := by simpa using h1
    have N1 := Lib.hid (HND.out 1 h1)
    clear h1
    by_cases h2 : kd = 2
    · subst h2
      have e := HKD.out 2 rfl
      subst e
      have HKK : Hid (wr [vF 3 (u64 ai)] = K) := Lib.hid (by rw [← HK.out]; simp [attK])
      have ho1 := HO3.out
      have bel1 := HBel.out
      have HV := Lib.hid (u64_wrap ai)
      have HV2 := Lib.hid (u64_lt ai)
      have hn3 : (wr [vF 3 (u64 ai)]).length ≤ 20 := by rw [wr_one]; exact wrF_v_len 3 _
      go_wp2_with fail
      refine Calls.mono (fnumber_at 3 (by omega) (by omega) (u64 ai) HV.out HV2.out) ?_
      rintro e W4 ⟨v4, rfl, hm4, hb4⟩
      obtain ⟨A4, n4, c4, rfl, hn4, -, -, hr4⟩ := hm4.form2
      have bel4 := bel1.trans (hb4.mono bel1.size)
      have z4 := bel4.size
      have ho4 := OB.below ho1 hb4 (Nat.le_refl _)
      go_wp2_with (at_builtin
                   go_must (refine append_bytes rfl _ _ rfl ho4 rfl (wr [vF 3 (u64 ai)]) rfl hn4.out hr4 (by first | omega | (simp only [List.length_append, List.length_nil]; omega)) z4 ?_; intro v4' W4' ho4' hg4' ha4')
                   have bel4' := grown_below ho4 hg4' z4 (Nat.le_refl _) bel4
                   obtain ⟨A4', n4', c4', rfl, -, -, -, -⟩ := ho4'.form2)
      go_meet
      case rel => exact ⟨by rw [← HKK.out]; exact ho4', bel4'⟩
    have e2 : (kd == 2) = false := by simpa using h2
    have N2 := Lib.hid (HND.out 2 h2)
    clear h2
    by_cases h3 : kd = 3
    · subst h3
      have e := HKD.out 3 rfl
      subst e
      have HKK : Hid (wr [dF 4 as'] = K) := Lib.hid (by rw [← HK.out]; simp [attK])
      have ho1 := HO3.out
      have bel1 := HBel.out
      have hn3 : (wr [dF 4 as']).length ≤ 20 + as'.length := by rw [wr_one]; exact wrF_d_len 4 _
      have hcv : ∀ w : World, (convert 9 28 (.string ⟨as'.toArray⟩)).run Tryz.prog w = .ok (.slice (some ⟨w.heap.size, 0, none⟩) as'.length (grownCap w as'.length 0 5)) (Lib.bytesWorld w 5 ⟨as'.toArray⟩) := fun w =>
        Lib.run_convert_string_bytes w _ _ _ _ Tryz.underlying9 Tryz.underlying28 Tryz.underlying5
      have hbb := below_bytes W3 5 ⟨as'.toArray⟩
      have ho0 := OB.below ho1 hbb (Nat.le_refl _)
      have bel0 := bel1.trans (hbb.mono hz3)
      have HC := Lib.hid (fblock_any 4 (by omega) (by omega) (held_bytes W3 as' (by omega)) (by omega))
      clear hbb
      go_wp2_with fail
      refine Calls.mono (HC.out) ?_
      rintro e W4 ⟨v4, rfl, hm4, hb4⟩
      obtain ⟨A4, n4, c4, rfl, hn4, -, -, hr4⟩ := hm4.form2
      have bel4 := bel0.trans (hb4.mono bel0.size)
      have z4 := bel4.size
      have ho4 := OB.below ho0 hb4 (Nat.le_refl _)
      go_wp2_with (at_builtin
                   go_must (refine append_bytes rfl _ _ rfl ho4 rfl (wr [dF 4 as']) rfl hn4.out hr4 (by first | omega | (simp only [List.length_append, List.length_nil]; omega)) z4 ?_; intro v4' W4' ho4' hg4' ha4')
                   have bel4' := grown_below ho4 hg4' z4 (Nat.le_refl _) bel4
                   obtain ⟨A4', n4', c4', rfl, -, -, -, -⟩ := ho4'.form2)
      go_meet
      case rel => exact ⟨by rw [← HKK.out]; exact ho4', bel4'⟩
    have e3 : (kd == 3) = false := by simpa using h3
    have N3 := Lib.hid (HND.out 3 h3)
    clear h3
    by_cases h4 : kd = 4
    · subst h4
      have e := HKD.out 4 rfl
      subst e
      have HKK : Hid (wr [dF 5 (wr (tenF [] at'))] = K) := Lib.hid (by rw [← HK.out]; have h4 := tenF_len (name := []) (HTN.out rfl) (by simp); simp [attK]; rw [encW_wr (tenF_ok _ _) (by omega)])
      have ho1 := HO3.out
      have bel1 := HBel.out
      have hten := HTN.out rfl
      obtain ⟨d0, d1, d2, d3⟩ := hten.small
      have htl := tenF_len (name := []) hten (by simp)
      have HC := Lib.hid (ftensor_any (name := []) HT3.out (by simp) (by omega) (by omega) (by omega) (by omega))
      generalize wr (tenF [] at') = tb at *
      have hn3 : (wr [dF 5 tb]).length ≤ 20 + tb.length := by rw [wr_one]; exact wrF_d_len 5 _
      clear hten
      go_wp2_with fail
      refine Calls.mono (HC.out) ?_
      rintro e W4 ⟨v4, rfl, hm4, hb4⟩
      obtain ⟨A4, n4, c4, rfl, hn4, -, -, hr4⟩ := hm4.form2
      have bel4 := bel1.trans (hb4.mono bel1.size)
      have z4 := bel4.size
      have ho4 := OB.below ho1 hb4 (Nat.le_refl _)
      have HC2 := Lib.hid (fblock_any 5 (by omega) (by omega) (hm4.held (by omega)) (by omega))
      go_wp2_with fail
      refine Calls.mono (HC2.out) ?_
      rintro e W5 ⟨v5, rfl, hm5, hb5⟩
      obtain ⟨A5, n5, c5, rfl, hn5, -, -, hr5⟩ := hm5.form2
      have bel5 := bel4.trans (hb5.mono bel4.size)
      have z5 := bel5.size
      have ho5 := OB.below ho4 hb5 (Nat.le_refl _)
      go_wp2_with (at_builtin
                   go_must (refine append_bytes rfl _ _ rfl ho5 rfl (wr [dF 5 tb]) rfl hn5.out hr5 (by first | omega | (simp only [List.length_append, List.length_nil]; omega)) z5 ?_; intro v5' W5' ho5' hg5' ha5')
                   have bel5' := grown_below ho5 hg5' z5 (Nat.le_refl _) bel5
                   obtain ⟨A5', n5', c5', rfl, -, -, -, -⟩ := ho5'.form2)
      go_meet
      case rel => exact ⟨by rw [← HKK.out]; exact ho5', bel5'⟩
    have e4 : (kd == 4) = false := by simpa using h4
    have N4 := Lib.hid (HND.out 4 h4)
    clear h4
    by_cases h6 : kd = 6
    · subst h6
      have e := HKD.out 6 rfl
      subst e
      have HKK : Hid ((if afl.isEmpty then [] else wr [dF 7 (rawF afl)]) = K) := Lib.hid (by rw [← HK.out]; cases afl <;> simp [attK, wr])
      have ho1 := HO3.out
      have bel1 := HBel.out
      have HFE : Hid (∀ l : List UInt32, rawF l = l.flatMap encF) := Lib.hid (fun l => rfl)
      have HLF := Lib.hid (flat_len encF 4 (fun x => by simp [encF, fix8_len]))
      go_wp2
      go_loopw [4, 5] (fun out i wq => RXrel encF [] afl W3 W3 out i wq) (fun _ i _ => afl.length - (intOf i).toNat)
      case atStart => exact ⟨0, Nat.zero_le _, rfl, OB.nil _ _, Below.refl _ _⟩
      case round =>
        obtain ⟨k, hk, rfl, hown, hbl⟩ := hrel
        have hsz := hbl.size
        have hpl := HLF.out (afl.take k)
        rw [List.length_take, Nat.min_eq_left hk] at hpl
        rw [List.nil_append] at hown
        clear p0 p1 p2 p3 p4 p5 p6 p7 p8 p9 p10 p11 lp
        obtain ⟨p0, p1, p2, p3, p4, p5, p6, p7, p8, p9, p10, p11, -, -, -, -, -, -, -, -, -, -, -, -, lp⟩ := blkc12 (HB1.out.below (HBel.out.trans (hbl.mono hz3)) HB1.out.lt)
        by_cases hlt : k < afl.length
        · obtain ⟨bx, off, rfl, -, hc0⟩ := (HF3.out.past hbl).u32_at hlt
          have HTK := Lib.hid (flat_snoc encF hlt)
          have HEF : Hid (encF afl[k] = fix8 afl[k].toNat 4) := Lib.hid rfl
          have hx32 := afl[k].toNat_lt
          generalize encF afl[k] = ef at *
          generalize afl[k].toNat = y at *
          have HWR : Hid (IntKind.u64.wrap (y : Int) = (y : Int)) := Lib.hid (by show (y : Int) % 18446744073709551616 = _; omega)
          have HY : Hid (y < 18446744073709551616) := Lib.hid (by omega)
          have hl4 := fix8_len y 4
          go_wp2_with fail
          refine Calls.mono (fbytesOf_at y 4 (by first | rfl | exact HWR.out) (by rfl) HY.out (by omega)) ?_
          rintro e w3 ⟨v3, rfl, ho3, hb3⟩
          obtain ⟨A9, n9, c9, rfl, hn9, -, -, hr9⟩ := ho3.form2
          have hown3 := OB.below hown hb3 (Nat.le_refl _)
          have hbel3 := hbl.trans (hb3.mono hsz)
          have hz3' := hbel3.size
          go_wp2_with (at_builtin
                       go_must (refine append_bytes rfl _ _ rfl hown3 rfl (fix8 y 4) rfl hn9.out hr9 (by omega) hz3' ?_; intro v4 w4 ho4 hg4 ha4))
          go_roundw
          case rel => exact ⟨k + 1, hlt, by go_num, by rw [HTK.out, HEF.out, List.nil_append]; exact ho4, grown_below hown3 hg4 hz3' (Nat.le_refl _) hbel3⟩
          case measure => simp [intOf]; omega
        · have hke : k = afl.length := by omega
          subst hke
          rw [List.take_length, ← HFE.out] at hown
          have hrl := rawF_len afl
          have hoO := HO3.out.below hbl (Nat.le_refl _)
          have bel7 := HBel.out.trans (hbl.mono hz3)
          have z7 := bel7.size
          by_cases h0 : afl = []
          · have HK0 : Hid (K = []) := Lib.hid (by rw [← HKK.out, h0]; rfl)
            rw [h0] at hown
            obtain ⟨A7, n7, c7, rfl, hn7, -, -, -⟩ := hown.form2
            have hz : n7 = 0 := hn7.out
            subst hz
            clear hn7 hrl
            go_wp2
            go_meet
            case rel => exact ⟨by rw [HK0.out, List.append_nil]; exact hoO, bel7⟩
          · have hpos : 0 < afl.length := List.length_pos_iff.2 h0
            have HK0 : Hid (K = Go.Proofs.YtlhpmlknmgocoaaGreat.wr [dF 7 (rawF afl)]) := Lib.hid (by rw [← HKK.out, if_neg (by simpa using h0)])
            generalize rawF afl = rb at *
            have hn3 : (Go.Proofs.YtlhpmlknmgocoaaGreat.wr [dF 7 rb]).length ≤ 20 + rb.length := by rw [wr_one]; exact wrF_d_len 7 _
            have HC2 := Lib.hid (fblock_any 7 (by omega) (by omega) (hown.held (by omega)) (by omega))
            obtain ⟨A7, n7, c7, rfl, hn7, -, -, -⟩ := hown.form2
            have hn0 : (n7 : Int) > 0 := by rw [hn7.out]; omega
            have HL0 := Lib.hid hrl
            clear hn7 hown hrl
            go_wp2_with fail
            refine Calls.mono HC2.out ?_
            rintro e W8 ⟨v8, rfl, hm8, hb8⟩
            obtain ⟨A8, n8, c8, rfl, hn8, -, -, hr8⟩ := hm8.form2
            have ho8 := OB.below hoO hb8 (Nat.le_refl _)
            have bel8 := bel7.trans (hb8.mono z7)
            have z8 := bel8.size
            go_wp2_with (at_builtin
                         go_must (refine append_bytes rfl _ _ rfl ho8 rfl (Go.Proofs.YtlhpmlknmgocoaaGreat.wr [dF 7 rb]) rfl hn8.out hr8 (by have := HL0.out; simp only [List.length_append, List.length_nil]; omega) z8 ?_; intro v9 W9 ho9 hg9 ha9))
            go_meet
            case rel => exact ⟨by rw [HK0.out]; exact ho9, grown_below ho8 hg9 z8 (Nat.le_refl _) bel8⟩
    have e6 : (kd == 6) = false := by simpa using h6
    have N6 := Lib.hid (HND.out 6 h6)
    clear h6
    by_cases h7 : kd = 7
    · subst h7
      have e := HKD.out 7 rfl
      subst e
      have HKK : Hid (wr (packF 8 ail) = K) := Lib.hid (by rw [← HK.out]; simp [attK])
      have ho1 := HO3.out
      have bel1 := HBel.out
      have hn3 := wr_pack_len 8 ail
      have HC := Lib.hid (fpacked_any 8 (by omega) (by omega) HI3.out (by omega))
      go_wp2_with fail
      refine Calls.mono (HC.out) ?_
      rintro e W4 ⟨v4, rfl, hm4, hb4⟩
      obtain ⟨A4, n4, c4, rfl, hn4, -, -, hr4⟩ := hm4.form2
      have bel4 := bel1.trans (hb4.mono bel1.size)
      have z4 := bel4.size
      have ho4 := OB.below ho1 hb4 (Nat.le_refl _)
      go_wp2_with (at_builtin
                   go_must (refine append_bytes rfl _ _ rfl ho4 rfl (wr (packF 8 ail)) rfl hn4.out hr4 (by first | omega | (simp only [List.length_append, List.length_nil]; omega)) z4 ?_; intro v4' W4' ho4' hg4' ha4')
                   have bel4' := grown_below ho4 hg4' z4 (Nat.le_refl _) bel4
                   obtain ⟨A4', n4', c4', rfl, -, -, -, -⟩ := ho4'.form2)
      go_meet
      case rel => exact ⟨by rw [← HKK.out]; exact ho4', bel4'⟩
    have e7 : (kd == 7) = false := by simpa using h7
    have N7 := Lib.hid (HND.out 7 h7)
    clear h7
    exfalso
    have := HKP.out
    simp [kindP, N1.out, N2.out, N3.out, N4.out, N6.out, N7.out] at this
  case rest =>
    obtain ⟨ho1, bel1⟩ := hcut
    obtain ⟨A1', n1', c1', rfl, -, -, -, -⟩ := ho1.form2
    obtain ⟨W4, hW⟩ : ∃ W, W = wc := ⟨_, rfl⟩
    subst hW
    clear p0 p1 p2 p3 p4 p5 p6 p7 p8 p9 p10 p11 lp
    obtain ⟨p0, p1, p2, p3, p4, p5, p6, p7, p8, p9, p10, p11, -, -, -, -, -, -, -, -, -, -, -, -, lp⟩ := blkc12 (HB1.out.below bel1 HB1.out.lt)
    clear HO3 HBel hz3 HT3 HF3 HI3 HK HKD HND HKP HTN
    go_wp2_with fail
    refine Calls.mono (rvarint_at 160 rfl (by omega)) ?_
    rintro e W5 ⟨v5, rfl, hm5, hb5⟩
    obtain ⟨A5, n5, c5, rfl, hn5, -, -, hr5⟩ := hm5.form2
    have bel5 := bel1.trans (hb5.mono bel1.size)
    have z5 := bel5.size
    have ho5 := OB.below ho1 hb5 (Nat.le_refl _)
    clear p0 p1 p2 p3 p4 p5 p6 p7 p8 p9 p10 p11 lp
    go_upto_region 24 with (at_builtin
                            go_must (refine append_bytes rfl _ _ rfl ho5 rfl (vi 160) rfl hn5.out hr5 (by first | omega | (simp only [List.length_append, List.length_nil]; omega)) z5 ?_; intro v5' W5' ho5' hg5' ha5')
                            have bel5' := grown_below ho5 hg5' z5 (Nat.le_refl _) bel5
                            obtain ⟨p0, p1, p2, p3, p4, p5, p6, p7, p8, p9, p10, p11, -, -, -, -, -, -, -, -, -, -, -, -, lp⟩ := blkc12 (HB1.out.below bel5' HB1.out.lt)
                            obtain ⟨A5', n5', c5', rfl, -, -, -, -⟩ := ho5'.form2)
    go_wp2_with fail
    refine Calls.mono (rvarint_at uk HU.out HU2.out) ?_
    rintro e W6 ⟨v6, rfl, hm6, hb6⟩
    obtain ⟨A6, n6, c6, rfl, hn6, -, -, hr6⟩ := hm6.form2
    have bel6 := bel5'.trans (hb6.mono bel5'.size)
    have z6 := bel6.size
    have ho6 := OB.below ho5' hb6 (Nat.le_refl _)
    go_wp2_with (at_builtin
                 go_must (refine append_bytes rfl _ _ rfl ho6 rfl (vi uk) rfl hn6.out hr6 (by first | omega | (simp only [List.length_append, List.length_nil]; omega)) z6 ?_; intro v6' W6' ho6' hg6' ha6')
                 have bel6' := grown_below ho6 hg6' z6 (Nat.le_refl _) bel6
                 obtain ⟨A6', n6', c6', rfl, -, -, -, -⟩ := ho6'.form2)
    go_ret
    exact MadeB.mk HBW.out ho6' bel6' HT.out
end
end Go.Proofs.YtlhpmlknmgocoaaGreat
