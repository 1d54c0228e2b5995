/- The reader's dims. -/
import Derived.Test.YtlhpmlknmgocoaaGreatOnE
namespace Go.Proofs.YtlhpmlknmgocoaaGreat
set_option linter.unusedSimpArgs false
set_option linter.unusedVariables false
open Go.RowKit

theorem cnt_err (l : List Int64) : (cnt l).2 = 0 ∨ (cnt l).2 = 1 ∨ (cnt l).2 = 8 := by
  unfold cnt
  split
  · exact .inr (.inl rfl)
  · split
    · exact .inr (.inr rfl)
    · split
      · exact .inl rfl
      · split
        · exact .inr (.inr rfl)
        · exact .inl rfl
theorem cnt_val (l : List Int64) : 0 ≤ (cnt l).1 ∧ (cnt l).1 ≤ 4096 := by
  unfold cnt
  split
  · simp
  · split
    · simp
    · split
      · simp
      · rename_i h1 h2 h3
        split
        · simp
        · rename_i h4
          have hn : Nn l := by
            intro d hd
            have : ¬ l.any (fun d => decide (d.toInt < 0)) = true := h1
            rw [Bool.not_eq_true, List.any_eq_false] at this
            have := this d hd
            simp at this; omega
          have := prod_pos l (pos_of hn (by simpa using h3))
          exact ⟨by simp only; omega, by simp only; omega⟩
def DMrel (l : List Int64) (w : World) (out i : Value) (wr : World) : Prop :=
  ∃ k : Nat, k ≤ l.length ∧ i = .int .i64 (k : Int) ∧ HRow wr w.heap.size 3 1 out k ((l.take k).map lfI) ∧ Below w.heap.size w wr
/-- what dims answers -/
def DimsP (w : World) (g : Nat) (f : Fl) (l : List Int64) (e : Ending) (w' : World) : Prop :=
  ∃ A n c, e = .returned (.tuple #[.slice A n c, .int .i64 (cnt l).1, .bool (decide ((cnt l).2 = 0))]) ∧ Held w' (Inb w.heap.size w'.heap.size) (datI l) (.slice A n c) ∧ RdB w' g (f.or (dDims l).2) ∧ w.grownBy w' (some g)
section
variable {g : Nat} {f : Fl} {S : Nat → Prop} {v : Value} {w : World}
set_option maxRecDepth 100000 in
set_option maxHeartbeats 1600000 in
theorem dims_any {l : List Int64} (hk : RdB w g f) (hv : Held w S (datI l) v) (hl : l.length ≤ 4194304) :
    Calls Tryz.prog 93 #[.pointer (some ⟨g, 0, none⟩), v] w (DimsP w g f l) := by
  obtain ⟨A, c, rfl, h2, h3, h4, -⟩ := Held.leaves hv
  have HK := Lib.hid hk
  have hlt0 := hk.lt
  clear hk
  go_enter Tryz.func93, Tryz.ntmps93
  go_wp2
  go_loopw [7, 14] (fun out i wr => DMrel l w out i wr) (fun _ i _ => l.length - (intOf i).toNat)
  case atStart => exact ⟨0, Nat.zero_le _, rfl, HRow.nil _ _ _ _, Below.refl _ _⟩
  case round =>
    obtain ⟨k, hk', rfl, hrow, hbel⟩ := hrel
    have hz := hbel.size
    by_cases hlt : k < l.length
    · obtain ⟨b, off, rfl, -, hc0⟩ := hv.int_at hlt
      have hc1 := (hbel.cell (p := ⟨b, off + k, none⟩) (World.block_lt_of_cell? w _ hc0)).trans hc0
      have HT : Hid ((l.take (k + 1)).map lfI = (l.take k).map lfI ++ [lfI l[k]]) := Lib.hid (by rw [List.take_succ_eq_append_getElem hlt, List.map_append]; rfl)
      clear hc0
      go_wp2_with (at_builtin
                   go_must (refine append_dat 35 3 (.int .i64 0) 1 8 (by kernel_rfl) info_Int rfl (by decide) rfl _ _ rfl hrow rfl rfl rfl [lfI l[k]] [.int .i64 l[k].toInt] rfl rfl (by simp [Value.oneCell']) (HL.get (.cons (.leaf _) .nil)) (by omega) (by unfold maxLen; omega) hz ?_; intro v2 w3 ho2 hg2 ha2))
      go_roundw
      case rel => exact ⟨k + 1, by omega, by go_num, by rw [HT.out]; exact ho2, hbel.grown hg2 (by omega) (fun q hq => (hrow.lt q hq).1)⟩
      case measure => simp [intOf]; omega
    · have hke : k = l.length := by omega
      subst hke
      rw [List.take_length] at hrow
      obtain ⟨A1, c1, rfl, -⟩ := hrow.form
      have hh : Held wr (Inb w.heap.size wr.heap.size) (datI l) (.slice A1 l.length c1) := hrow.held (by omega)
      have HH := Lib.hid hh
      have hk2 := HK.out.past hbel
      obtain ⟨k0, k1, k2, z0, z1, z2, hgw⟩ := hk2.cells
      have HC := Lib.hid (count_any hh)
      have HK2 := Lib.hid hk2
      have HBL := Lib.hid hbel
      have hD : Hid ((dDims l).2 = ⟨decide ((cnt l).2 = 1), false, decide ((cnt l).2 = 8)⟩) := Lib.hid rfl
      have herr := cnt_err l
      obtain ⟨⟨cn, er⟩, hr⟩ : ∃ r, cnt l = r := ⟨_, rfl⟩
      have HCN := Lib.hid hr
      rw [hr] at HC hD herr
      obtain ⟨fb, fs, fm⟩ := f
      dsimp only at *
      clear hv hrow hbel hh hk2 hr
      go_wp2_with fail
      refine HC.out.mono ?_
      rintro e w' ⟨rfl, hw'⟩
      subst w'
      rcases herr with rfl | rfl | rfl
      all_goals
        cases fb
        all_goals
          cases fm
          all_goals
            go_wp2
            go_ret3
            unfold DimsP
            rw [HCN.out]
            refine ⟨_, _, _, rfl, ?_, ((HK2.out.set0 _).set2 _).to (by rw [hD.out]; simp [Fl.or]), grown_trans (grown_trans (grown_past HBL.out _) (grown_set _ _ _ _)) (grown_set _ _ _ _)⟩
            exact ((HH.out.setCell (p := ⟨g, 0, none⟩) (fun h => by have h1 : w.heap.size ≤ g := h.1; omega) _).setCell (p := ⟨g, 2, none⟩) (fun h => by have h1 : w.heap.size ≤ g := h.1; omega) _).mono fun b hb => ⟨hb.1, by have := hb.2; simpa [World.setCell] using this⟩
end
end Go.Proofs.YtlhpmlknmgocoaaGreat
