/- Bytes of numbers: bytesOf, packed, toRaw. -/
import Derived.Test.YtlhpmlknmgocoaaGreatOnDa
import Derived.Test.YtlhpmlknmgocoaaGreatOnCh
namespace Go.Proofs.YtlhpmlknmgocoaaGreat
set_option linter.unusedSimpArgs false
set_option linter.unusedVariables false
open Go.RowKit

/-- a row of bytes of the caller's own has grown -/
def AddB (W : World) (base : Nat) (l : List UInt8) (e : Ending) (W' : World) : Prop := ∃ v, e = .returned v ∧ OB W' base v l ∧ Below base W W'
def BOrel (x : Nat) (n base : Nat) (l : List UInt8) (W : World) (out i : Value) (wr : World) : Prop := ∃ k : Nat, k ≤ n ∧ i = .int .i64 (k : Int) ∧ OB wr base out (l ++ fix8 x k) ∧ Below base W wr
set_option maxHeartbeats 400000 in
theorem bytesOf_any {W : World} {base : Nat} {v : Value} {l : List UInt8} (x n : Nat) (hn : n ≤ 8) (ho : OB W base v l) (hb : base ≤ W.heap.size) (hl : l.length ≤ 140737488355328) :
    Calls Tryz.prog 81 #[v, .int .u64 x, .int .i64 n] W (AddB W base (l ++ fix8 x n)) := by
  obtain ⟨A0, n0, c0, rfl, -⟩ := ho.form2
  have HO := Lib.hid ho
  clear ho
  go_enter Tryz.func81, Tryz.ntmps81
  go_wp2
  go_loopw [0, 9] (fun out i wr => BOrel x n base l W out i wr) (fun _ i _ => n - (intOf i).toNat)
  case atStart => exact ⟨0, Nat.zero_le _, rfl, by have := HO.out; simpa [fix8] using this, Below.refl _ _⟩
  case round =>
    obtain ⟨k, hk, rfl, hown, hbl⟩ := hrel
    have hlen := fix8_len x k
    have hsz : base ≤ wr.heap.size := Nat.le_trans hb hbl.size
    by_cases hlt : k < n
    · have HS := Lib.hid (u8_shr x k)
      have HF := Lib.hid (fix8_succ x k)
      go_wp2_with (at_builtin; refine append_byte rfl _ _ rfl hown rfl rfl rfl (UInt8.ofNat (x / 256 ^ k)) HS.out (by rw [List.length_append]; omega) hsz ?_; intro v' w' ho hg ha)
      go_roundw
      case rel => exact ⟨k + 1, by omega, by go_num, by rw [HF.out, ← List.append_assoc]; exact ho, grown_below hown hg hsz (Nat.le_refl _) hbl⟩
      case measure => simp [intOf]; omega
    · have hke : k = n := by omega
      subst hke
      go_wp2
      go_ret
      exact ⟨_, rfl, hown, hbl⟩
theorem packB_snoc {l : List Int64} {k : Nat} (h : k < l.length) : packB (l.take (k + 1)) = packB (l.take k) ++ vi (u64 l[k]) := by
  unfold packB
  rw [List.take_succ_eq_append_getElem h, List.flatMap_append]; simp
theorem packB_pos {l : List Int64} (h : l ≠ []) : 0 < (packB l).length := by
  cases l with
  | nil => exact absurd rfl h
  | cons x l =>
    have := (vi_len (u64 x)).2
    have e : packB (x :: l) = vi (u64 x) ++ packB l := by simp [packB]
    rw [e, List.length_append]; omega
def PKrel (l : List Int64) (W : World) (out i : Value) (wr : World) : Prop := ∃ k : Nat, k ≤ l.length ∧ i = .int .i64 (k : Int) ∧ OB wr W.heap.size out (packB (l.take k)) ∧ Below W.heap.size W wr
section
variable {w W : World} {g lo : Nat} {v u : Value} {fs : List Fld} {S : Nat → Prop}
set_option maxRecDepth 100000 in
set_option maxHeartbeats 800000 in
theorem packInt_any {l : List Int64} (num : Int) (hs : OS w W g lo v fs) (hv : Held W S (datI l) u) (hl : l.length ≤ 1000000) (hm : fs.length + 1 ≤ 2900000000000) :
    Calls Tryz.prog 52 #[.pointer (some ⟨g, 0, none⟩), .int .i64 num, u] W (OP w W g lo v (fs ++ packF num l)) := by
  obtain ⟨A, c, rfl, -, -, -⟩ := Held.form1 hv
  have HS := Lib.hid hs
  clear hs
  go_enter Tryz.func52, Tryz.ntmps52
  go_wp2
  go_loopw [6, 11] (fun out i wr => PKrel l W out i wr) (fun _ i _ => l.length - (intOf i).toNat)
  case atStart => exact ⟨0, Nat.zero_le _, rfl, OB.nil _ _, Below.refl _ _⟩
  case round =>
    obtain ⟨k, hk, rfl, hown, hbl⟩ := hrel
    have hsz := hbl.size
    have hpl := packB_len (l.take k)
    rw [List.length_take, Nat.min_eq_left hk] at hpl
    obtain ⟨A0, n0, c0, rfl, hn0, -, -, hr0⟩ := hown.form2
    by_cases hlt : k < l.length
    · obtain ⟨b1, off, rfl, -, hc0⟩ := (hv.past hbl).int_at hlt
      have HT := Lib.hid (packB_snoc hlt)
      have HX := Lib.hid (u64_wrap l[k])
      have hx64 := Lib.hid (u64_lt l[k])
      have HV := vi_len (u64 l[k])
      generalize u64 l[k] = y at *
      generalize l[k].toInt = d at *
      have HN0 := Lib.hid hn0
      clear hn0
      go_wp2_with fail
      refine (varint_at y HX.out hx64.out).mono ?_
      rintro e w3 ⟨v3, rfl, ho3, hb3⟩
      obtain ⟨A3, n3, c3, rfl, hn3, hl3, hq3, hr3⟩ := ho3.form2
      have hown3 := OB.below hown hb3 (Nat.le_refl _)
      have hbel3 := hbl.trans (hb3.mono hsz)
      have hz3 := hbel3.size
      go_wp2_with (at_builtin
                   go_must (refine append_bytes rfl _ _ rfl hown3 rfl (vi y) rfl hn3.out hr3 (by omega) hz3 ?_; intro v4 w4 ho4 hg4 ha4))
      go_roundw
      case rel => exact ⟨k + 1, hlt, by go_num, by rw [HT.out]; exact ho4, grown_below hown3 hg4 hz3 (Nat.le_refl _) hbel3⟩
      case measure => simp [intOf]; omega
    · have hke : k = l.length := by omega
      subst hke
      rw [List.take_length] at hown hn0 hpl
      by_cases h0 : l = []
      · have hz : n0 = 0 := by rw [hn0.out, h0]; rfl
        subst hz
        clear hn0
        go_wp2
        go_end0
        exact OP.after HS.out hbl ⟨v, rfl, by rw [h0]; simpa [packF] using HS.out.past hbl, Fr.refl _ _ _, .inl rfl⟩
      · have hp := packB_pos h0
        have hn1 : 0 < n0 := by rw [hn0.out]; exact hp
        have HP : Hid (packF num l = [dF num (packB l)]) := Lib.hid (by simp [packF, h0])
        have HC := Lib.hid (obytes_any num (HS.out.past hbl) (HS.out.fresh hbl (hown.held (by omega))) hm)
        clear hn0 hp
        go_wp2_with fail
        refine Calls.mono HC.out ?_
        rintro e w1 ⟨v1, rfl, h1, h2, h3⟩
        go_wp2
        go_end0
        rw [HP.out]
        exact OP.after HS.out hbl ⟨v1, rfl, h1, h2, h3⟩
set_option maxRecDepth 100000 in
set_option maxHeartbeats 800000 in
theorem packI64_any {l : List Int64} (num : Int) (hs : OS w W g lo v fs) (hv : Held W S (datI l) u) (hl : l.length ≤ 1000000) (hm : fs.length + 1 ≤ 2900000000000) :
    Calls Tryz.prog 80 #[.pointer (some ⟨g, 0, none⟩), .int .i64 num, u] W (OP w W g lo v (fs ++ packF num l)) := by
  obtain ⟨A, c, rfl, -, -, -⟩ := Held.form1 hv
  have HS := Lib.hid hs
  clear hs
  go_enter Tryz.func80, Tryz.ntmps80
  go_wp2
  go_loopw [6, 11] (fun out i wr => PKrel l W out i wr) (fun _ i _ => l.length - (intOf i).toNat)
  case atStart => exact ⟨0, Nat.zero_le _, rfl, OB.nil _ _, Below.refl _ _⟩
  case round =>
    obtain ⟨k, hk, rfl, hown, hbl⟩ := hrel
    have hsz := hbl.size
    have hpl := packB_len (l.take k)
    rw [List.length_take, Nat.min_eq_left hk] at hpl
    obtain ⟨A0, n0, c0, rfl, hn0, -, -, hr0⟩ := hown.form2
    by_cases hlt : k < l.length
    · obtain ⟨b1, off, rfl, -, hc0⟩ := (hv.past hbl).int_at hlt
      have HT := Lib.hid (packB_snoc hlt)
      have HX := Lib.hid (u64_wrap l[k])
      have hx64 := Lib.hid (u64_lt l[k])
      have HV := vi_len (u64 l[k])
      generalize u64 l[k] = y at *
      generalize l[k].toInt = d at *
      have HN0 := Lib.hid hn0
      clear hn0
      go_wp2_with fail
      refine (varint_at y HX.out hx64.out).mono ?_
      rintro e w3 ⟨v3, rfl, ho3, hb3⟩
      obtain ⟨A3, n3, c3, rfl, hn3, hl3, hq3, hr3⟩ := ho3.form2
      have hown3 := OB.below hown hb3 (Nat.le_refl _)
      have hbel3 := hbl.trans (hb3.mono hsz)
      have hz3 := hbel3.size
      go_wp2_with (at_builtin
                   go_must (refine append_bytes rfl _ _ rfl hown3 rfl (vi y) rfl hn3.out hr3 (by omega) hz3 ?_; intro v4 w4 ho4 hg4 ha4))
      go_roundw
      case rel => exact ⟨k + 1, hlt, by go_num, by rw [HT.out]; exact ho4, grown_below hown3 hg4 hz3 (Nat.le_refl _) hbel3⟩
      case measure => simp [intOf]; omega
    · have hke : k = l.length := by omega
      subst hke
      rw [List.take_length] at hown hn0 hpl
      by_cases h0 : l = []
      · have hz : n0 = 0 := by rw [hn0.out, h0]; rfl
        subst hz
        clear hn0
        go_wp2
        go_end0
        exact OP.after HS.out hbl ⟨v, rfl, by rw [h0]; simpa [packF] using HS.out.past hbl, Fr.refl _ _ _, .inl rfl⟩
      · have hp := packB_pos h0
        have hn1 : 0 < n0 := by rw [hn0.out]; exact hp
        have HP : Hid (packF num l = [dF num (packB l)]) := Lib.hid (by simp [packF, h0])
        have HC := Lib.hid (obytes_any num (HS.out.past hbl) (HS.out.fresh hbl (hown.held (by omega))) hm)
        clear hn0 hp
        go_wp2_with fail
        refine Calls.mono HC.out ?_
        rintro e w1 ⟨v1, rfl, h1, h2, h3⟩
        go_wp2
        go_end0
        rw [HP.out]
        exact OP.after HS.out hbl ⟨v1, rfl, h1, h2, h3⟩

theorem flat_len {α : Type} (enc : α → List UInt8) (B : Nat) (h : ∀ x, (enc x).length ≤ B) : ∀ l : List α, (l.flatMap enc).length ≤ B * l.length
  | [] => by simp
  | x :: l => by
    have h1 := h x
    have h2 := flat_len enc B h l
    rw [List.flatMap_cons, List.length_append, List.length_cons, Nat.mul_add]; omega
theorem flat_snoc {α : Type} (enc : α → List UInt8) {l : List α} {k : Nat} (h : k < l.length) : (l.take (k + 1)).flatMap enc = (l.take k).flatMap enc ++ enc l[k] := by
  rw [List.take_succ_eq_append_getElem h, List.flatMap_append]; simp
def encF (x : UInt32) : List UInt8 := fix8 x.toNat 4
def encI (x : Int64) : List UInt8 := fix8 (u64 x) 8
def encO (x : Bool) : List UInt8 := [if x then 1 else 0]
theorem rawO_flat (l : List Bool) : rawO l = l.flatMap encO := by
  induction l with
  | nil => rfl
  | cons x l ih =>
    have e : rawO (x :: l) = encO x ++ rawO l := by simp [rawO, encO]
    rw [e, ih, List.flatMap_cons]
def RWrel {α : Type} (enc : α → List UInt8) (pre : List UInt8) (l : List α) (W : World) (out i : Value) (wr : World) : Prop :=
  ∃ k : Nat, k ≤ l.length ∧ i = .int .i64 (k : Int) ∧ OB wr W.heap.size out (pre ++ (l.take k).flatMap enc) ∧ Below W.heap.size W wr
theorem bytesOf_at {W : World} {base : Nat} {v : Value} {l : List UInt8} {t : Int} (x n : Nat) (ht : t = (x : Int)) (hn : n ≤ 8) (ho : OB W base v l) (hb : base ≤ W.heap.size) (hl : l.length ≤ 140737488355328) :
    Calls Tryz.prog 81 #[v, .int .u64 t, .int .i64 n] W (AddB W base (l ++ fix8 x n)) := by
  subst ht; exact bytesOf_any x n hn ho hb hl
theorem Held.u32_at {w : World} {S : Nat → Prop} {A : Option Addr} {n c : Nat} {l : List UInt32} (h : Held w S (datF l) (.slice A n c)) {k : Nat} (hk : k < l.length) : ∃ b off, A = some ⟨b, off, none⟩ ∧ S b ∧ w.cell? ⟨b, off + k, none⟩ = some (.int .u32 (l[k].toNat : Int)) := by
  obtain ⟨A', c', e, -, -, -, h5⟩ := Held.leaves h
  injection e with e1 e2 e3
  subst e1
  exact h5 k hk
theorem Held.bool_at {w : World} {S : Nat → Prop} {A : Option Addr} {n c : Nat} {l : List Bool} (h : Held w S (datO l) (.slice A n c)) {k : Nat} (hk : k < l.length) : ∃ b off, A = some ⟨b, off, none⟩ ∧ S b ∧ w.cell? ⟨b, off + k, none⟩ = some (.bool l[k]) := by
  obtain ⟨A', c', e, -, -, -, h5⟩ := Held.leaves h
  injection e with e1 e2 e3
  subst e1
  exact h5 k hk
set_option maxRecDepth 100000 in
set_option maxHeartbeats 1600000 in
theorem toRaw_any {t : Tn} {us : List Value} (hl : HL W S (datT t) us) (l1 : t.f.length ≤ 1000000) (l2 : t.i.length ≤ 1000000) (l3 : t.b.length ≤ 1000000) :
    Calls Tryz.prog 53 #[.agg us.toArray] W (MadeD W (rawT t)) := by
  obtain ⟨A1, c1, A2, c2, A3, c3, A4, c4, rfl, -, hf, hi, hb, b1, b2, b3, b4⟩ := hl.ten
  have HR : Hid (rawT t = (t.f.flatMap encF ++ t.i.flatMap encI) ++ t.b.flatMap encO) := Lib.hid (by rw [← rawO_flat]; rfl)
  have hlF := flat_len encF 4 (fun x => by simp [encF, fix8_len])
  have hlI := flat_len encI 8 (fun x => by simp [encI, fix8_len])
  have hlO := flat_len encO 1 (fun x => by simp [encO])
  generalize rawT t = raw at *
  generalize t.ty.toInt = ti at *
  generalize t.dims.length = nd at *
  obtain ⟨f, hfe⟩ : ∃ f, t.f = f := ⟨_, rfl⟩
  obtain ⟨il, hie⟩ : ∃ f, t.i = f := ⟨_, rfl⟩
  obtain ⟨bl, hbe⟩ : ∃ f, t.b = f := ⟨_, rfl⟩
  rw [hfe] at hf l1 b2 HR
  rw [hie] at hi l2 b3 HR
  rw [hbe] at hb l3 b4 HR
  rw [hfe, hie, hbe]
  clear hfe hie hbe hl
  have HLF := Lib.hid hlF
  have HLI := Lib.hid hlI
  have HLO := Lib.hid hlO
  clear hlF hlI hlO
  obtain ⟨cs, hcs⟩ : ∃ cs : Array Value, #[.int .i64 ti, .slice A1 nd c1, .slice A2 f.length c2, .slice A3 il.length c3, .slice A4 bl.length c4] = cs := ⟨_, rfl⟩
  obtain ⟨W1, hW1⟩ : ∃ W1, W.alloc (.cells cs 55) = W1 := ⟨_, rfl⟩
  have hblk : Blk W1 W.heap.size 55 #[.int .i64 ti, .slice A1 nd c1, .slice A2 f.length c2, .slice A3 il.length c3, .slice A4 bl.length c4] := by rw [hcs, ← hW1]; exact Blk.new _ _ _
  have hbel1 : Below W.heap.size W W1 := by rw [← hW1]; exact (Below.refl _ _).alloc (Nat.le_refl _) _
  have hsz1 : W1.heap.size = W.heap.size + 1 := by rw [← hW1]; simp
  have hf := hf.past hbel1
  have hi := hi.past hbel1
  have hb := hb.past hbel1
  have HB1 := Lib.hid hblk
  have HBL := Lib.hid hbel1
  have HCS := Lib.hid hcs
  have HW := Lib.hid hW1
  clear hcs hW1 hblk hbel1
  go_enter Tryz.func53, Tryz.ntmps53
  go_wp2
  go_loopw [3, 14] (fun out i wr => RWrel encF [] f W1 out i wr) (fun _ i _ => f.length - (intOf i).toNat)
  case atStart => exact ⟨0, Nat.zero_le _, rfl, OB.nil _ _, by rw [HCS.out, HW.out]; exact Below.refl _ _⟩
  case round =>
    obtain ⟨k, hk, rfl, hown, hbl⟩ := hrel
    have hsz := hbl.size
    have hpl := HLF.out (f.take k)
    rw [List.length_take, Nat.min_eq_left hk] at hpl
    rw [List.nil_append] at hown
    by_cases hlt : k < f.length
    · obtain ⟨bx, off, rfl, -, hc0⟩ := (hf.past hbl).u32_at hlt
      have HT := Lib.hid (flat_snoc encF hlt)
      have HE : Hid (encF f[k] = fix8 f[k].toNat 4) := Lib.hid rfl
      have hx32 := f[k].toNat_lt
      generalize encF f[k] = ef at *
      generalize f[k].toNat = y at *
      have hw : IntKind.u64.wrap (y : Int) = (y : Int) := by
        show (y : Int) % 18446744073709551616 = _
        omega
      have HWR := Lib.hid hw
      clear hw
      go_wp2_with fail
      refine Calls.mono (bytesOf_at y 4 (by first | rfl | exact HWR.out) (by omega) hown hsz (by omega)) ?_
      rintro e w3 ⟨v3, rfl, ho3, hb3⟩
      go_wp2
      go_roundw
      case rel => exact ⟨k + 1, hlt, by go_num, by rw [HT.out, HE.out]; exact ho3, hbl.trans hb3⟩
      case measure => simp [intOf]; omega
    · have hke : k = f.length := by omega
      subst hke
      rw [List.take_length] at hown hpl
      obtain ⟨p0, p1, p2, p3, p4, -, -, -, -, -, lp⟩ := blkc5 (HB1.out.below hbl (by omega))
      have HPL := Lib.hid hpl
      have HBF := Lib.hid hbl
      have HOW := Lib.hid hown
      clear hpl hbl hown
      go_wp2
      go_loopw [3, 26] (fun out i wr => RWrel encI (f.flatMap encF) il W1 out i wr) (fun _ i _ => il.length - (intOf i).toNat)
      case atStart => exact ⟨0, Nat.zero_le _, rfl, by simpa using HOW.out, HBF.out⟩
      case round =>
        obtain ⟨k, hk, rfl, hown, hbl⟩ := hrel
        have hsz := hbl.size
        have hpl := HLI.out (il.take k)
        rw [List.length_take, Nat.min_eq_left hk] at hpl
        have hpf := HPL.out
        by_cases hlt : k < il.length
        · obtain ⟨bx, off, rfl, -, hc0⟩ := (hi.past hbl).int_at hlt
          have HT := Lib.hid (flat_snoc encI hlt)
          have HE : Hid (encI il[k] = fix8 (u64 il[k]) 8) := Lib.hid rfl
          have HWR := Lib.hid (u64_wrap il[k])
          generalize encI il[k] = ef at *
          generalize u64 il[k] = y at *
          generalize il[k].toInt = d at *
          clear p0 p1 p2 p3 p4 lp
          go_wp2_with fail
          refine Calls.mono (bytesOf_at y 8 HWR.out (by omega) hown hsz (by rw [List.length_append]; omega)) ?_
          rintro e w3 ⟨v3, rfl, ho3, hb3⟩
          go_wp2
          go_roundw
          case rel => exact ⟨k + 1, hlt, by go_num, by rw [HT.out, HE.out, ← List.append_assoc]; exact ho3, hbl.trans hb3⟩
          case measure => simp [intOf]; omega
        · have hke : k = il.length := by omega
          subst hke
          rw [List.take_length] at hown hpl
          clear p0 p1 p2 p3 p4 lp
          obtain ⟨p0, p1, p2, p3, p4, -, -, -, -, -, lp⟩ := blkc5 (HB1.out.below hbl (by omega))
          have HPI := Lib.hid hpl
          have HBI := Lib.hid hbl
          have HOI := Lib.hid hown
          clear hpl hbl hown
          go_wp2
          go_loopw [3, 38] (fun out i wr => RWrel encO (f.flatMap encF ++ il.flatMap encI) bl W1 out i wr) (fun _ i _ => bl.length - (intOf i).toNat)
          case atStart => exact ⟨0, Nat.zero_le _, rfl, by simpa using HOI.out, HBI.out⟩
          case round =>
            obtain ⟨k, hk, rfl, hown, hbl⟩ := hrel
            have hsz := hbl.size
            have hpl := HLO.out (bl.take k)
            rw [List.length_take, Nat.min_eq_left hk] at hpl
            have hpf := HPL.out
            have hpi := HPI.out
            by_cases hlt : k < bl.length
            · obtain ⟨bx, off, rfl, -, hc0⟩ := (hb.past hbl).bool_at hlt
              have HT := Lib.hid (flat_snoc encO hlt)
              generalize bl[k] = x at *
              clear p0 p1 p2 p3 p4 lp
              cases x
              · go_wp2_with (at_builtin; refine append_byte rfl _ _ rfl hown rfl rfl rfl (0 : UInt8) rfl (by rw [List.length_append, List.length_append]; omega) hsz ?_; intro v' w' ho hg ha)
                go_roundw
                case rel => exact ⟨k + 1, hlt, by go_num, by rw [HT.out, ← List.append_assoc]; exact ho, grown_below hown hg hsz (Nat.le_refl _) hbl⟩
                case measure => simp [intOf]; omega
              · go_wp2_with (at_builtin; refine append_byte rfl _ _ rfl hown rfl rfl rfl (1 : UInt8) rfl (by rw [List.length_append, List.length_append]; omega) hsz ?_; intro v' w' ho hg ha)
                go_roundw
                case rel => exact ⟨k + 1, hlt, by go_num, by rw [HT.out, ← List.append_assoc]; exact ho, grown_below hown hg hsz (Nat.le_refl _) hbl⟩
                case measure => simp [intOf]; omega
            · have hke : k = bl.length := by omega
              subst hke
              rw [List.take_length] at hown hpl
              go_wp2
              go_ret
              rw [← HR.out] at hown
              refine ⟨_, rfl, (hown.held (by rw [HR.out, List.length_append, List.length_append]; omega)).mono fun b hb => ⟨by have := hb.1; omega, hb.2⟩, HBL.out.trans (hbl.mono (by omega))⟩
end
end Go.Proofs.YtlhpmlknmgocoaaGreat
