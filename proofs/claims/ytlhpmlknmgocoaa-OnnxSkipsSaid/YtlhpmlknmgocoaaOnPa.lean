/- The statements' own helpers: parts, message, unknown. -/
import Derived.Test.YtlhpmlknmgocoaaOnAw
import Derived.Test.YtlhpmlknmgocoaaOnWd
namespace Go.Proofs.Ytlhpmlknmgocoaa
set_option linter.unusedSimpArgs false
set_option linter.unusedVariables false
open Go.RowKit

theorem Held.all {w : World} {S : Nat → Prop} {d : Dat} {v : Value} (h : Held w S d v) : Held w (fun _ => True) d v := h.mono fun _ _ => trivial
theorem Held.rbb {w : World} {S : Nat → Prop} {A : Option Addr} {n c : Nat} {l : List UInt8} (h : Held w S (datB l) (.slice A n c)) : RB w w.heap.size A l := by
  obtain ⟨A', c', e, -, -, r⟩ := h.dv
  injection e with e1 e2 e3
  subst e1
  exact r
theorem ob_lit {w : World} {base : Nat} {us : Array Value} (l : List UInt8) (hu : us = (byt l).toArray) (hb : base ≤ w.heap.size) (hl : l.length ≤ 140737488355328) : OB (w.alloc (.cells us 5)) base (.slice (some ⟨w.heap.size, 0, none⟩) l.length l.length) l := by
  subst hu
  refine ⟨by simp [byt], .inr ⟨w.heap.size, l.length, (byt l).toArray, rfl, hb, heap_alloc_new w _, Nat.le_refl _, by unfold maxLen; omega, by simp [byt], ?_⟩⟩
  rw [List.take_of_length_le (by simp [byt])]
theorem msg_len (num : Int) (b : List UInt8) : (msg num b).length ≤ 4194304 := writeE_len _
def PrtR (w : World) (r : List UInt8 × Bool) (e : Ending) (w' : World) : Prop :=
  ∃ A c, e = .returned (.tuple #[.slice A r.1.length c, .bool r.2]) ∧ Held w' (Inb w.heap.size w'.heap.size) (datB r.1) (.slice A r.1.length c) ∧ Below w.heap.size w w'
theorem PrtR.mk {w w' : World} {r : List UInt8 × Bool} {l : List UInt8} {b : Bool} {A : Option Addr} {n c : Nat} (h : r = (l, b)) (hn : n = l.length) (hd : Held w' (Inb w.heap.size w'.heap.size) (datB l) (.slice A n c)) (hb : Below w.heap.size w w') : PrtR w r (.returned (.tuple #[.slice A n c, .bool b])) w' := by
  subst h hn; exact ⟨A, c, rfl, hd, hb⟩
theorem jne_cases (a : List Fld) : jne a = 0 ∨ jne a = 6 := by
  unfold jne; split
  · exact .inr rfl
  · exact .inl rfl
section
variable {w : World} {S : Nat → Prop} {v : Value}
set_option maxRecDepth 100000 in
set_option maxHeartbeats 3200000 in
theorem parts_any {b : List UInt8} (hv : Held w S (datB b) v) : Calls Try.prog 16 #[v] w (PrtR w (prt b)) := by
  obtain ⟨A, c, rfl, h2, h3, h4⟩ := hv.dv
  have HC := Lib.hid (rread_any A c b w h2 h3 h4)
  have hsm := dFields_len b
  have HP : Hid (prt b = if (readE b).2 = 0 then ((jn (sel 7 (readE b).1)).getD [], jnb (sel 7 (readE b).1) && decide (jne (sel 7 (readE b).1) = 0)) else ([], false)) := Lib.hid rfl
  have hf0 : (dFields b).1 = (readE b).1 := rfl
  rw [hf0] at hsm
  obtain ⟨⟨fs, er⟩, hr⟩ : ∃ r, readE b = r := ⟨_, rfl⟩
  rw [hr] at HC HP hsm
  dsimp only at HC HP hsm
  clear hf0 hr hv
  generalize b.length = n at *
  go_enter Try.func16, Try.ntmps16
  go_wp2_with fail
  refine Calls.mono HC.out ?_
  rintro e w1 ⟨u, rfl, ho, hb⟩
  have hb1 := Lib.hid hb
  dsimp only
  dsimp only at ho
  by_cases he : er = 0
  · subst he
    have HPE : Hid (prt b = ((jn (sel 7 fs)).getD [], jnb (sel 7 fs) && decide (jne (sel 7 fs) = 0))) := Lib.hid (by rw [HP.out, if_pos rfl])
    have hrf := (ho.held (by omega) fun i hi => by
      have := data_bulk hi
      omega).rf
    obtain ⟨A1, c1, rfl, hc1, hc1', hrf1⟩ := hrf
    obtain ⟨jl, hjl⟩ : ∃ x, (jn (sel 7 fs)).getD [] = x := ⟨_, rfl⟩
    obtain ⟨jb, hjb⟩ : ∃ x, jnb (sel 7 fs) = x := ⟨_, rfl⟩
    obtain ⟨je, hje⟩ : ∃ x, jne (sel 7 fs) = x := ⟨_, rfl⟩
    have HC2 := Lib.hid (rjoined_at (A := A1) (cap := c1) (w := w1) rfl hjl hjb hje (by omega) (by omega) hrf1)
    have hjc := jne_cases (sel 7 fs)
    have hjn := jn_len' (sel 7 fs)
    have hbs := bulk_sel 7 fs
    rw [hjl] at hjn
    rw [hje] at hjc
    rw [hjl, hjb, hje] at HPE
    have hll : jl.length ≤ 4194304 := by omega
    generalize fs.length = nf at *
    clear ho hb hrf1 hjl hjb hje hjn hbs hsm
    go_wp2_with fail
    refine Calls.mono HC2.out ?_
    rintro e w2 ⟨A2, n2, c2, rfl, hn2, ho2, hb2⟩
    have HD := Lib.hid (ho2.held (by omega))
    have HB2 := Lib.hid hb2
    clear ho2 hb2
    have hz := hb1.out.size
    rcases hjc with rfl | rfl
    · cases jb
      all_goals
        go_wp2
        go_ret2
        exact PrtR.mk (by rw [HPE.out]; rfl) hn2.out (HD.out.mono fun x hx => ⟨by have := hx.1; omega, hx.2⟩) (hb1.out.trans (HB2.out.mono hz))
    · cases jb
      all_goals
        go_wp2
        go_ret2
        exact PrtR.mk (by rw [HPE.out]; rfl) hn2.out (HD.out.mono fun x hx => ⟨by have := hx.1; omega, hx.2⟩) (hb1.out.trans (HB2.out.mono hz))
  · have e1 : (er == 0) = false := by simpa using he
    obtain ⟨A1, c1, rfl, -⟩ := ho.form
    have HE : Hid (prt b = ([], false)) := Lib.hid (by rw [HP.out, if_neg he])
    clear ho hb
    go_wp2
    go_ret2
    exact PrtR.mk HE.out rfl (Held.nil _ _ _ _ _ (by unfold maxLen; omega)) hb1.out
theorem held_fld {w : World} {g : Nat} {T : TypeId} {f : Fld} {u : Value} (hb : Blk w g T #[.int .i64 f.num, .int .i64 f.wire, .int .u64 (f.x : Int), u]) (hd : Held w S (datB f.data) u) : Held w (fun _ => True) (datFs [f]) (.slice (some ⟨g, 0, none⟩) 1 1) :=
  held_blk (us := [.int .i64 f.num, .int .i64 f.wire, .int .u64 (f.x : Int), u]) (m := 1) hb trivial (.cons (.leaf _) (.cons (.leaf _) (.cons (.leaf _) (.cons hd.all .nil)))) rfl (by omega)
set_option maxRecDepth 100000 in
theorem rmsg_any {b : List UInt8} (num : Int) (hv : Held w S (datB b) v) (hl : b.length ≤ 4194304) : Calls Try.prog 18 #[.int .i64 num, v] w (MadeD w (msg num b)) := by
  obtain ⟨A, c, rfl, -⟩ := Held.form1 hv
  have hh := held_fld (w := w.alloc (.cells #[.int .i64 num, .int .i64 2, .int .u64 0, .slice A b.length c] 102)) (f := dF num b) (g := w.heap.size) (T := 102) (Blk.new _ _ _) (hv.alloc _)
  obtain ⟨A1, c1, e1, h2, h3, h4⟩ := hh.rf
  injection e1 with e1 e2 e3
  subst e1 e3
  clear e2
  have HC := Lib.hid (rwrite_any (some ⟨w.heap.size, 0, none⟩) 1 [dF num b] (w.alloc (.cells #[.int .i64 num, .int .i64 2, .int .u64 0, .slice A b.length c] 102)) h3 h2 h4 (fun f hf => by
    simp only [List.mem_singleton] at hf
    subst hf
    exact ⟨by simp [dF], by simp only [dF]; omega⟩))
  have HL := Lib.hid (writeE_len [dF num b])
  have HM : Hid (msg num b = (writeE [dF num b]).1) := Lib.hid rfl
  have HA := Lib.hid ((Below.refl w.heap.size w).alloc (Nat.le_refl _) (.cells #[.int .i64 num, .int .i64 2, .int .u64 0, .slice A b.length c] 102))
  generalize writeE [dF num b] = r at *
  generalize b.length = n at *
  clear hh h2 h3 h4 hv
  go_enter Try.func18, Try.ntmps18
  go_wp2_with fail
  refine Calls.mono HC.out ?_
  rintro e w1 ⟨u, rfl, ho, hb⟩
  have HD := Lib.hid (ho.held (by have := HL.out; omega))
  obtain ⟨A2, n2, c2, rfl, -⟩ := ho.form2
  have HB := Lib.hid hb
  clear ho hb
  go_wp2
  go_ret
  rw [HM.out]
  exact ⟨_, rfl, HD.out.mono (fun x hx => ⟨by have := hx.1; simp at this; omega, hx.2⟩), HA.out.trans (HB.out.mono (by simp))⟩
theorem and1023' (n : Int) : bits .and .i64 n 1023 = n % 1024 := by
  have h1 : (BitVec.ofInt 64 1023).toNat = 2 ^ 10 - 1 := by decide
  have key : (BitVec.ofInt 64 n &&& BitVec.ofInt 64 1023).toNat = (n % ((2 ^ 64 : Nat) : Int)).toNat % 2 ^ 10 := by
    rw [BitVec.toNat_and, BitVec.toNat_ofInt, h1, Nat.and_two_pow_sub_one_eq_mod]
  show IntKind.i64.wrap ((BitVec.ofInt 64 n &&& BitVec.ofInt 64 1023).toNat : Nat) = n % 1024
  rw [key, IntKind.wrap_i64]
  omega
theorem and1023 (n : Int) : 0 ≤ bits .and .i64 n 1023 ∧ bits .and .i64 n 1023 ≤ 1023 := by rw [and1023']; omega
/-- a field of a number that is not named -/
def OddR (w : World) (e : Ending) (w' : World) : Prop := ∃ f : Fld, Odd f ∧ MadeD w (wr [f]) e w'
theorem odd_v {k : Int} (h : 0 ≤ k) (h' : k ≤ 1023) {x : Nat} (hx : x < 18446744073709551616) : Odd (vF (100 + k) x) := by
  refine ⟨by simp only [vF]; omega, WrA.v (by omega) (by omega) hx, ?_⟩
  rw [wr_one]
  have h1 := vi_len ((100 + k).toNat * 8 + (0 : Int).toNat)
  have h2 := vi_len x
  simp only [wrF, vF, if_pos, List.length_append]
  omega
theorem odd_d {k : Int} (h : 0 ≤ k) (h' : k ≤ 1023) (x : Nat) : Odd (dF (100 + k) (vi x)) := by
  refine ⟨by simp only [dF]; omega, WrA.d (by omega) (by omega) _, ?_⟩
  rw [wr_one]
  have h1 := wrF_d_len (100 + k) (vi x)
  have h2 := vi_len x
  omega
theorem odd_write {f : Fld} (h : Odd f) : writeE [f] = (wr [f], 0) := wr_ok h.wr1 (by have := h.len; omega)
set_option maxRecDepth 100000 in
/-- a field's row of one, written by the document's Write -/
theorem rwrite_one {f : Fld} (hf : Odd f) {w : World} {g : Nat} (hh : Held w S (datFs [f]) (.slice (some ⟨g, 0, none⟩) 1 1)) : Calls Try.prog 20 #[.slice (some ⟨g, 0, none⟩) 1 1] w (WriteR w (wr [f], 0)) := by
  obtain ⟨A1, c1, e1, h2, h3, h4⟩ := hh.rf
  injection e1 with e1 e2 e3
  subst e1 e3
  rw [← odd_write hf]
  refine rwrite_any (some ⟨g, 0, none⟩) 1 [f] w h3 h2 h4 fun f' hf' => ?_
  have h5 := hf.wr1 f' hf'
  obtain rfl := List.mem_singleton.1 hf'
  refine ⟨h5.2, ?_⟩
  have h6 := wr_bulk [f'] fun g hg => (hf.wr1 g hg).1
  have h7 := hf.len
  simp only [bulkF] at h6
  omega
set_option maxRecDepth 100000 in
set_option maxHeartbeats 3200000 in
theorem unknown_any (num : Int) (x : Nat) (t : Bool) (hx : x < 18446744073709551616) : Calls Try.prog 17 #[.int .i64 num, .int .u64 x, .bool t] w (OddR w) := by
  have hand := and1023 num
  generalize hbits : bits .and .i64 num 1023 = kk at *
  obtain ⟨ox, hox⟩ : ∃ f, vF (100 + kk) x = f := ⟨_, rfl⟩
  obtain ⟨od, hod⟩ : ∃ f, dF (100 + kk) (vi x) = f := ⟨_, rfl⟩
  have HOX : Hid (Odd ox) := Lib.hid (hox ▸ odd_v hand.1 hand.2 hx)
  have HOD : Hid (Odd od) := Lib.hid (hod ▸ odd_d hand.1 hand.2 x)
  have HV := Lib.hid (rvarint_any x hx (w.alloc (.cells #[.int .i64 (100 + kk), .int .i64 0, .int .u64 (x : Int), .slice none 0 0] 102)))
  have HF : ∀ (w : World) (g : Nat), g = w.heap.size → Hid (Held (w.alloc (.cells #[.int .i64 (100 + kk), .int .i64 0, .int .u64 (x : Int), .slice none 0 0] 102)) (fun _ => True) (datFs [ox]) (.slice (some ⟨g, 0, none⟩) 1 1)) := fun w g hg => Lib.hid (by
    subst hox
    exact held_fld (S := fun _ => True) (f := vF (100 + kk) x) (Blk.new' _ _ _ hg) (Held.nil _ _ _ _ _ (by unfold maxLen; omega)))
  have HD : ∀ (w : World) (g : Nat) (A : Option Addr) (c : Nat), g = w.heap.size → Held w (fun _ => True) (datB (vi x)) (.slice A (vi x).length c) → Hid (Held (w.alloc (.cells #[.int .i64 (100 + kk), .int .i64 2, .int .u64 0, .slice A (vi x).length c] 102)) (fun _ => True) (datFs [od]) (.slice (some ⟨g, 0, none⟩) 1 1)) := fun w g A c hg hd => Lib.hid (by
    subst hod
    exact held_fld (f := dF (100 + kk) (vi x)) (Blk.new' _ _ _ hg) (hd.alloc _))
  have hvl := vi_len x
  have hB := Lib.hid ((Below.refl w.heap.size w).alloc (Nat.le_refl _) (.cells #[.int .i64 (100 + kk), .int .i64 0, .int .u64 (x : Int), .slice none 0 0] 102))
  clear hox hod hx
  go_enter Try.func17, Try.ntmps17
  cases t
  · have HC := Lib.hid (rwrite_one HOX.out (HF (w.alloc (.cells #[.int .i64 (100 + kk), .int .i64 0, .int .u64 (x : Int), .slice none 0 0] 102)) (w.heap.size + 1) (by simp)).out)
    go_wp2_with fail
    refine Calls.mono HC.out ?_
    rintro e w1 ⟨u, rfl, ho, hb⟩
    have hl := HOX.out.len
    have HD1 := Lib.hid (ho.held (by dsimp only; omega))
    obtain ⟨A2, n2, c2, rfl, -⟩ := ho.form2
    have HB := Lib.hid (((hB.out.alloc hB.out.size _).trans (hb.mono (by simp; omega))))
    clear ho hb hl
    go_wp2
    go_ret
    exact ⟨ox, HOX.out, _, rfl, HD1.out.mono (fun x hx => ⟨by have := hx.1; simp at this; omega, hx.2⟩), HB.out⟩
  · go_wp2_with fail
    refine Calls.mono HV.out ?_
    rintro e w1 ⟨u, rfl, ho, hb⟩
    have hd := ho.held (by omega)
    obtain ⟨A2, c2, rfl, -⟩ := Held.form1 hd
    have hk : Blk w1 w.heap.size 102 #[.int .i64 (100 + kk), .int .i64 0, .int .u64 (x : Int), .slice none 0 0] := (Blk.new w _ _).below hb (by simp)
    obtain ⟨p0, p1, p2, p3⟩ := blk4 hk
    have f0 := hk.frozen 0
    have f1 := hk.frozen 1
    have f2 := hk.frozen 2
    have f3 := hk.frozen 3
    have lp := hk.lt
    have hn : ¬ Inb (w.alloc (.cells #[.int .i64 (100 + kk), .int .i64 0, .int .u64 (x : Int), .slice none 0 0] 102)).heap.size w1.heap.size w.heap.size := fun h => by
      have := h.1
      simp at this
      omega
    have hd4 := ((((hd.setCell (p := ⟨w.heap.size, 0, none⟩) hn (.int .i64 (100 + kk))).setCell (p := ⟨w.heap.size, 1, none⟩) hn (.int .i64 2)).setCell (p := ⟨w.heap.size, 2, none⟩) hn (.int .u64 0)).setCell (p := ⟨w.heap.size, 3, none⟩) hn (.slice A2 (vi x).length c2)).all
    have HC := Lib.hid (rwrite_one HOD.out (HD _ w1.heap.size A2 c2 (by simp) hd4).out)
    have HB1 := Lib.hid (((((hB.out.trans (hb.mono hB.out.size)).setCell (p := ⟨w.heap.size, 0, none⟩) (Nat.le_refl _) (.int .i64 (100 + kk))).setCell (p := ⟨w.heap.size, 1, none⟩) (Nat.le_refl _) (.int .i64 2)).setCell (p := ⟨w.heap.size, 2, none⟩) (Nat.le_refl _) (.int .u64 0)).setCell (p := ⟨w.heap.size, 3, none⟩) (Nat.le_refl _) (.slice A2 (vi x).length c2))
    clear ho hd hd4 hk
    go_wp2_with fail
    refine Calls.mono HC.out ?_
    rintro e w2 ⟨u, rfl, ho2, hb2⟩
    have hl := HOD.out.len
    have HD1 := Lib.hid (ho2.held (by dsimp only; omega))
    obtain ⟨A3, n3, c3, rfl, -⟩ := ho2.form2
    have HB2 := Lib.hid ((HB1.out.alloc HB1.out.size _).trans (hb2.mono (by simp; omega)))
    clear ho2 hb2 hb hl
    go_wp2
    go_ret
    exact ⟨od, HOD.out, _, rfl, HD1.out.mono (fun x hx => ⟨by have := hx.1; simp at this; omega, hx.2⟩), HB2.out⟩
end
end Go.Proofs.Ytlhpmlknmgocoaa
