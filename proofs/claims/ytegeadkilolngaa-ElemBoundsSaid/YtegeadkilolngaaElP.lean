/- between; answers that Canon leaves as they are. -/
import Derived.Test.YtegeadkilolngaaElO
import Derived.Test.YtegeadkilolngaaElH
namespace Go.Proofs.Ytegeadkilolngaa
open Go.RowKit

theorem canon_ok {a : Nat} (h : okR a) : canonP a = a := by
  unfold canonP
  split
  · rename_i hn
    rcases h.2 with e | e
    · exact e.symm
    · exfalso
      unfold nanP at hn
      rw [decide_eq_true_iff] at hn
      omega
  · rfl
theorem lt_tanh {x : Nat} (h : x < 4294967296) : tanhP x < 4294967296 := by
  unfold tanhP
  split
  · decide
  · split
    · exact h
    · unfold tanhM
      exact lt_signed (lt_held (okR.add 0 (by decide) (neg_lt (okR.div 0 _ _).1)).1 (by decide) (by decide))
theorem lt_erf {x : Nat} (h : x < 4294967296) : erfP x < 4294967296 := by
  unfold erfP
  split
  · decide
  · split
    · exact h
    · split
      · exact lt_signed (by decide)
      · unfold erfM
        exact lt_signed (lt_held (lt_fma (by decide)) (by decide) (by decide))
theorem lt_sigm (x : Nat) : sigmP x < 4294967296 := by
  unfold sigmP
  split
  · decide
  · unfold sigmM
    exact lt_held (okR.div 0 _ _).1 (by decide) (by decide)
theorem lt_circ {x : Nat} (q : Nat) (h : x < 4294967296) : circP x q < 4294967296 := by
  unfold circP
  split
  · decide
  · split
    · decide
    · unfold circM
      have lS : circS x < 4294967296 := lt_fma (lt_fma (lt_fma (lt_fma h)))
      have lC : circC x < 4294967296 := lt_row (by intro d hd; simp at hd; omega)
      refine lt_held ?_ (by decide) (by decide)
      unfold circY
      split
      · exact lS
      · split
        · exact lC
        · split
          · exact neg_lt lS
          · exact neg_lt lC
theorem between_at {r lo hi : Nat} {w : World} (Hr : Hid (r < 4294967296)) (Hl : Hid (lo < 4294967296)) (Hh : Hid (hi < 4294967296)) (h : Hid (InR r lo hi)) :
    Calls Try.prog 17 #[.int .u32 (r : Int), .int .u32 (lo : Int), .int .u32 (hi : Int)] w (fun e w' => e = .returned (.bool true) ∧ w' = w) := by
  by_cases hn : r = 2143289344
  · subst hn
    clear h Hr
    go_enter Try.func17, Try.ntmps17
    go_wp2
    go_ret
    exact ⟨rfl, rfl⟩
  · have hne : ((r : Int) == 2143289344) = false := by simp; omega
    have C1 : Hid (lessP r lo = false) := Lib.hid (h.out.resolve_left hn).1
    have C2 : Hid (lessP hi r = false) := Lib.hid (h.out.resolve_left hn).2.1
    have C3 : Hid (nanP r = false) := Lib.hid (h.out.resolve_left hn).2.2
    clear hn h
    go_enter Try.func17, Try.ntmps17
    go_wp2_with fail
    refine (less3_at Hr Hl C1).mono ?_
    rintro e' w' ⟨rfl, hw⟩
    subst w'
    go_wp2_with fail
    refine (less3_at Hh Hr C2).mono ?_
    rintro e' w' ⟨rfl, hw⟩
    subst w'
    go_wp2_with fail
    refine (rnone_at Hr C3).mono ?_
    rintro e' w' ⟨rfl, hw⟩
    subst w'
    go_wp2
    go_ret
    exact ⟨rfl, rfl⟩
end Go.Proofs.Ytegeadkilolngaa
