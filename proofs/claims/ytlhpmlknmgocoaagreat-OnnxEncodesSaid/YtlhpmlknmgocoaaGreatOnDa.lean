/- A message that is being written: names, the message's end, packed numbers. -/
import Derived.Test.YtlhpmlknmgocoaaGreatOnCd
import Derived.Test.YtlhpmlknmgocoaaGreatMW
import Derived.Lib.ConvBytes
namespace Go.Proofs.YtlhpmlknmgocoaaGreat
set_option linter.unusedSimpArgs false
set_option linter.unusedVariables false
open Go.RowKit

/-! ### bytes out of a string -/
theorem below_bytes (w : World) (e : TypeId) (s : ByteArray) : Below w.heap.size w (Lib.bytesWorld w e s) := by
  refine ⟨?_, ?_, ?_, by rw [Lib.bytesWorld_size]; omega, fun k hk => Lib.bytesWorld_at_old w e s k hk⟩
  all_goals rfl
theorem held_bytes (w : World) (l : List UInt8) (hl : l.length ≤ 140737488355328) :
    Held (Lib.bytesWorld w 5 ⟨l.toArray⟩) (Inb w.heap.size (Lib.bytesWorld w 5 ⟨l.toArray⟩).heap.size) (datB l) (.slice (some ⟨w.heap.size, 0, none⟩) l.length (grownCap w l.length 0 5)) := by
  refine .row 1 _ _ l.length _ (byt l) (by simp) (by simp [byt]) ?_ (grownCap_le_maxLen w l.length 0 _ (by unfold maxLen; omega)) hl (fun h0 => ⟨_, rfl, ?_, fun j u hj => ?_⟩) ?_
  · exact grownCap_ge w l.length 0 _
  · exact ⟨Nat.le_refl _, by rw [Lib.bytesWorld_size]; show w.heap.size < _; omega⟩
  · have hjl : j < l.length := by
      have := (List.getElem?_eq_some_iff.1 hj).1
      rwa [byt_len] at this
    rw [byt_get l j hjl] at hj
    obtain rfl := Option.some.inj hj
    rw [Addr.add_lit, Nat.zero_add, Lib.bytesWorld_cell _ _ _ _ (by show j < l.toArray.size; simpa using hjl)]
    simp [List.getD, List.getElem?_eq_getElem hjl]
  · intro j hj hj'
    simp only [byt, List.getElem_map]
    exact .leaf _
section
variable {w W : World} {g lo : Nat} {v : Value} {fs : List Fld}
theorem OP.after {W1 W2 : World} {fs' : List Fld} {e : Ending} (hs : OS w W g lo v fs) (hb : Below W.heap.size W W1) (h : OP w W1 g lo v fs' e W2) : OP w W g lo v fs' e W2 := by
  obtain ⟨v', rfl, h1, h2, h3⟩ := h
  refine ⟨v', rfl, h1, ⟨h2.os.trans hb.os, h2.tape.trans hb.tape, h2.output.trans hb.output, Nat.le_trans hb.size h2.size, fun k hk n1 n2 => (h2.block k (Nat.lt_of_lt_of_le hk hb.size) n1 n2).trans (hb.block k hk)⟩, ?_⟩
  rcases h3 with h3 | ⟨k, h3, h4⟩
  · exact .inl h3
  · exact .inr ⟨k, h3, Nat.le_trans hb.size h4⟩
set_option maxRecDepth 100000 in
set_option maxHeartbeats 800000 in
theorem oname_any {s : List UInt8} (num : Int) (hs : OS w W g lo v fs) (hl : s.length ≤ 140737488355328) (hm : fs.length + 1 ≤ 2900000000000) :
    Calls Tryz.prog 25 #[.pointer (some ⟨g, 0, none⟩), .int .i64 num, .string ⟨s.toArray⟩] W (OP w W g lo v (fs ++ nameF num s)) := by
  have HS := Lib.hid hs
  clear hs
  by_cases h0 : s = []
  · subst h0
    go_enter Tryz.func25, Tryz.ntmps25
    go_wp2
    go_end0
    exact ⟨v, rfl, by simpa [nameF] using HS.out, Fr.refl _ _ _, .inl rfl⟩
  · have n0 : s.isEmpty = false := by simpa using h0
    have HN : Hid (nameF num s = [dF num s]) := Lib.hid (by simp [nameF, h0])
    have hcv : ∀ w : World, (convert 9 28 (.string ⟨s.toArray⟩)).run Tryz.prog w = .ok (.slice (some ⟨w.heap.size, 0, none⟩) s.length (grownCap w s.length 0 5)) (Lib.bytesWorld w 5 ⟨s.toArray⟩) := fun w =>
      Lib.run_convert_string_bytes w _ _ _ _ Tryz.underlying9 Tryz.underlying28 Tryz.underlying5
    have HB := Lib.hid (below_bytes W 5 ⟨s.toArray⟩)
    have HC := Lib.hid (obytes_any num (HS.out.past HB.out) (HS.out.fresh HB.out (held_bytes W s hl)) hm)
    go_enter Tryz.func25, Tryz.ntmps25
    go_wp2_with fail
    refine Calls.mono HC.out ?_
    rintro e w1 ⟨v1, rfl, h1, h2, h3⟩
    go_wp2
    go_end0
    rw [HN.out]
    exact OP.after HS.out HB.out ⟨v1, rfl, h1, h2, h3⟩
/-- the message: a call that only makes -/
def MadeD (W : World) (b : List UInt8) (e : Ending) (W' : World) : Prop := ∃ u, e = .returned u ∧ Held W' (Inb W.heap.size W'.heap.size) (datB b) u ∧ Below W.heap.size W W'
theorem writeE_len (fs : List Fld) : (writeE fs).1.length ≤ 4194304 := by
  unfold writeE
  split
  · split
    · simp
    · simp only; omega
  · simp
set_option maxRecDepth 100000 in
theorem odone_any (hs : OS w W g lo v fs) (hwf : Wf64 fs) (hm : fs.length ≤ 2900000000000) :
    Calls Tryz.prog 30 #[.pointer (some ⟨g, 0, none⟩)] W (MadeD W (encW fs)) := by
  obtain ⟨k0, z0, l0⟩ := hs.start
  have hr := (hs.r.held (by omega)).rf
  obtain ⟨A, c, rfl, h2, h3, h4⟩ := hr
  have HC := Lib.hid (write_any A c fs W h3 h2 h4 hwf)
  have HL := Lib.hid (writeE_len fs)
  have HE : Hid (encW fs = (writeE fs).1) := Lib.hid rfl
  generalize writeE fs = r at *
  generalize fs.length = n at *
  clear hs
  go_enter Tryz.func30, Tryz.ntmps30
  go_wp2_with fail
  refine Calls.mono HC.out ?_
  rintro e w1 ⟨u, rfl, ho, hb⟩
  have HO := Lib.hid (ho.held (by have := HL.out; omega))
  obtain ⟨A1, n1, c1, rfl, -⟩ := ho.form2
  clear ho
  go_wp2
  go_ret
  rw [HE.out]
  exact ⟨_, rfl, HO.out, hb⟩
end
end Go.Proofs.YtlhpmlknmgocoaaGreat
