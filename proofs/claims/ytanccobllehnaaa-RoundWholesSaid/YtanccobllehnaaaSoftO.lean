/- The contract of soft.open. -/
import Derived.Test.YtanccobllehnaaaSoftW
import Derived.Test.YtanccobllehnaaaSMem
namespace Go.Proofs.Ytanccobllehnaaa
open Go.RowKit

structure Num where
  neg : Bool
  nan : Bool
  inf : Bool
  exp : Int
  sig : Nat
/-- a float taken apart -/
def openN (a : Nat) : Num :=
  if a / 8388608 % 256 = 255 then ⟨decide (2147483648 ≤ a), decide (a % 8388608 ≠ 0), decide (a % 8388608 = 0), 0, 0⟩
  else if a / 8388608 % 256 = 0 then ⟨decide (2147483648 ≤ a), false, false, -149, a % 8388608⟩
  else ⟨decide (2147483648 ≤ a), false, false, ((a / 8388608 % 256 : Nat) : Int) - 150, a % 8388608 + 8388608⟩
def numC (x : Num) : Array Value := #[.bool x.neg, .bool x.nan, .bool x.inf, .int .i64 x.exp, .int .u64 (x.sig : Int)]
theorem open_out (w : World) (tmps : Array Value) (g : Nat) (c0 c1 c2 c3 c4 : Value) (h2 : tmps.getD 2 undef = .pointer (some ⟨g, 0, none⟩)) (hk : Blk w g 67 #[c0, c1, c2, c3, c4]) :
    (results Try.f67 tmps).run Try.prog w = .ok (.agg #[c0, c1, c2, c3, c4]) w := by
  obtain ⟨k0, k1, k2, k3, k4⟩ := blk5 hk
  rw [Array.getD_eq_getD_getElem?] at h2
  simp [results, Try.results67, go_sem, h2, k0, k1, k2, k3, k4]
  try rfl
theorem and_u32 {x : Nat} (k : Nat) (hk : k ≤ 32) (h : x < 4294967296) : bits .and .u32 (x : Int) (2 ^ k - 1) = ((x % two k : Nat) : Int) := by
  rw [bits_mask .u32 32 (by decide) wraps_u32 k hk (x : Int) (by omega) (by omega), two_cast]
  simp

set_option maxRecDepth 100000 in
set_option maxHeartbeats 800000 in
theorem open_any (a : Nat) (w : World) (h : a < 4294967296) :
    Calls Try.prog 67 #[.int .u32 (a : Int)] w fun e w' => e = .returned (.agg (numC (openN a))) ∧ Below w.heap.size w w' := by
  have h1 : bits .and .u32 ((a : Int) / 8388608) 255 = ((a / 8388608 % 256 : Nat) : Int) := and_u32 (x := a / 8388608) 8 (by decide) (by omega)
  have h2 : bits .and .u32 (a : Int) 8388607 = ((a % 8388608 : Nat) : Int) := and_u32 23 (by decide) h
  have h3 : ((a : Int) / 2147483648 == 1) = decide (2147483648 ≤ a) := by
    by_cases hh : 2147483648 ≤ a
    · rw [decide_eq_true hh, beq_iff_eq]; omega
    · rw [decide_eq_false hh, beq_eq_false_iff_ne]; omega
  have HO : Hid (openN a = if a / 8388608 % 256 = 255 then ⟨decide (2147483648 ≤ a), decide (a % 8388608 ≠ 0), decide (a % 8388608 = 0), 0, 0⟩
    else if a / 8388608 % 256 = 0 then ⟨decide (2147483648 ≤ a), false, false, -149, a % 8388608⟩
    else ⟨decide (2147483648 ≤ a), false, false, ((a / 8388608 % 256 : Nat) : Int) - 150, a % 8388608 + 8388608⟩) := Lib.hid rfl
  have hE : a / 8388608 % 256 < 256 := by omega
  have hF : a % 8388608 < 8388608 := by omega
  generalize a / 8388608 % 256 = E at *
  generalize a % 8388608 = F at *
  generalize decide (2147483648 ≤ a) = nb at *
  generalize openN a = o at *
  by_cases e1 : E = 255
  · have HO2 : Hid (o = ⟨nb, decide (F ≠ 0), decide (F = 0), 0, 0⟩) := Lib.hid (by rw [HO.out, if_pos e1])
    clear HO
    subst e1
    by_cases f0 : F = 0
    · subst f0
      go_enter Try.func67, Try.ntmps67
      go_wp2
      refine bodyPost_ret (open_out _ _ w.heap.size _ _ _ _ _ rfl ((Blk.new w _ _).alloc _)) rfl ?_
      exact ⟨by rw [HO2.out]; simp [numC], ((Below.refl w.heap.size w).alloc (Nat.le_refl _) _).alloc (by simp) _⟩
    · have c1 : ((F : Int) != 0) = true := by simp; omega
      have c2 : ((F : Int) == 0) = false := by rw [beq_eq_false_iff_ne]; omega
      go_enter Try.func67, Try.ntmps67
      go_wp2
      refine bodyPost_ret (open_out _ _ w.heap.size _ _ _ _ _ rfl ((Blk.new w _ _).alloc _)) rfl ?_
      exact ⟨by rw [HO2.out]; simp [numC, f0], ((Below.refl w.heap.size w).alloc (Nat.le_refl _) _).alloc (by simp) _⟩
  · have c0 : ((E : Int) == 255) = false := by rw [beq_eq_false_iff_ne]; omega
    by_cases e0 : E = 0
    · have HO2 : Hid (o = ⟨nb, false, false, -149, F⟩) := Lib.hid (by rw [HO.out, if_neg e1, if_pos e0])
      clear HO
      subst e0
      go_enter Try.func67, Try.ntmps67
      go_wp2
      refine bodyPost_ret (open_out _ _ w.heap.size _ _ _ _ _ rfl ((Blk.new w _ _).alloc _)) rfl ?_
      exact ⟨by rw [HO2.out]; simp [numC], ((Below.refl w.heap.size w).alloc (Nat.le_refl _) _).alloc (by simp) _⟩
    · have HO2 : Hid (o = ⟨nb, false, false, (E : Int) - 150, F + 8388608⟩) := Lib.hid (by rw [HO.out, if_neg e1, if_neg e0])
      clear HO
      have c1 : ((E : Int) == 0) = false := by rw [beq_eq_false_iff_ne]; omega
      have c2 : bits .or .u64 (F : Int) 8388608 = ((F + 8388608 : Nat) : Int) := by
        have e : 8388608 ||| F = 8388608 + F := by
          have := Nat.two_pow_add_eq_or_of_lt (i := 23) (b := F) (by omega) 1
          simpa using this.symm
        have hc := bits_or_u64_nat F 8388608 (by omega) (by decide)
        rw [Nat.or_comm, e, Nat.add_comm] at hc
        exact hc
      go_enter Try.func67, Try.ntmps67
      go_wp2
      refine bodyPost_ret (open_out _ _ w.heap.size _ _ _ _ _ rfl ((Blk.new w _ _).alloc _)) rfl ?_
      exact ⟨by rw [HO2.out]; simp [numC], ((Below.refl w.heap.size w).alloc (Nat.le_refl _) _).alloc (by simp) _⟩
end Go.Proofs.Ytanccobllehnaaa
