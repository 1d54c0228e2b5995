/- Contracts of round.open and round.sign; what an open finite float is. -/
import Derived.Test.YtanccobllehnaaaRefP
namespace Go.Proofs.Ytanccobllehnaaa
open Go.RowKit

/-- a finite float taken apart -/
def oN (a : Nat) : Bool := decide (2147483648 ≤ a)
def oE (a : Nat) : Int := if a / 8388608 % 256 = 0 then -149 else ((a / 8388608 % 256 : Nat) : Int) - 150
def oS (a : Nat) : Nat := if a / 8388608 % 256 = 0 then a % 8388608 else a % 8388608 + 8388608
theorem ofin_amt {a : Nat} : oS a * two (oE a + 149).toNat = amt (absP a) := by
  unfold oS oE amt absP
  have e1 : a % 2147483648 / 8388608 = a / 8388608 % 256 := by omega
  have e2 : a % 2147483648 % 8388608 = a % 8388608 := by omega
  rw [e1, e2]
  split
  · show a % 8388608 * two 0 = _
    rw [show two 0 = 1 from rfl]
    omega
  · rw [Nat.add_comm, show (((a / 8388608 % 256 : Nat) : Int) - 150 + 149).toNat = a / 8388608 % 256 - 1 from by omega]
theorem o_bounds (a : Nat) : oS a < 16777216 ∧ -149 ≤ oE a ∧ oE a ≤ 105 := by
  unfold oS oE
  split <;> omega
theorem o_nil {a : Nat} : oS a = 0 ↔ absP a = 0 := by
  unfold oS absP
  split <;> omega
theorem o_fin {a : Nat} (h : absP a < 2139095040) : oE a ≤ 104 := by
  unfold oE absP at *
  split <;> omega
theorem o_norm {a : Nat} (h : -149 < oE a) : 8388608 ≤ oS a := by
  unfold oE at h
  unfold oS
  split at h
  · omega
  · rename_i h0
    rw [if_neg h0]
    omega
theorem ropen_out (w : World) (tmps : Array Value) (g : Nat) (c0 c1 c2 : Value) (h2 : tmps.getD 2 undef = .pointer (some ⟨g, 0, none⟩)) (hk : Blk w g 46 #[c0, c1, c2]) :
    (results Try.f42 tmps).run Try.prog w = .ok (.agg #[c0, c1, c2]) w := by
  have k0 := hk.cell 0
  have k1 := hk.cell 1
  have k2 := hk.cell 2
  simp at k0 k1 k2
  rw [Array.getD_eq_getD_getElem?] at h2
  simp [results, Try.results42, go_sem, h2, k0, k1, k2]
  try rfl
def numA (n : Bool) (e : Int) (s : Nat) : Value := .agg #[.bool n, .int .i64 e, .int .u64 (s : Int)]
set_option maxRecDepth 100000 in
set_option maxHeartbeats 800000 in
theorem ropen_any (a : Nat) (w : World) (h : Hid (a < 4294967296)) :
    Calls Try.prog 42 #[.int .u32 (a : Int)] w fun e w' => e = .returned (.agg #[.bool (oN a), .int .i64 (oE a), .int .u64 (oS a : Int)]) ∧ Below w.heap.size w w' := by
  have hh := h.out
  have h1 : bits .and .u32 ((a : Int) / 8388608) 255 = ((a / 8388608 % 256 : Nat) : Int) := and_u32 (x := a / 8388608) 8 (by decide) (by omega)
  have h2 : bits .and .u32 (a : Int) 8388607 = ((a % 8388608 : Nat) : Int) := and_u32 23 (by decide) hh
  have h3 : ((a : Int) / 2147483648 == 1) = oN a := by
    unfold oN
    by_cases hh : 2147483648 ≤ a
    · rw [decide_eq_true hh, beq_iff_eq]; omega
    · rw [decide_eq_false hh, beq_eq_false_iff_ne]; omega
  have HO : Hid (oE a = if a / 8388608 % 256 = 0 then -149 else ((a / 8388608 % 256 : Nat) : Int) - 150) := Lib.hid rfl
  have HS : Hid (oS a = if a / 8388608 % 256 = 0 then a % 8388608 else a % 8388608 + 8388608) := Lib.hid rfl
  have hE : a / 8388608 % 256 < 256 := by omega
  have hF : a % 8388608 < 8388608 := by omega
  generalize a / 8388608 % 256 = E at *
  generalize a % 8388608 = F at *
  generalize oN a = nb at *
  generalize oE a = ee at *
  generalize oS a = ss at *
  clear hh
  by_cases e0 : E = 0
  · have HO2 : Hid (ee = -149) := Lib.hid (by rw [HO.out, if_pos e0])
    have HS2 : Hid (ss = F) := Lib.hid (by rw [HS.out, if_pos e0])
    clear HO HS
    subst e0
    go_enter Try.func42, Try.ntmps42
    go_wp2
    refine bodyPost_ret (ropen_out _ _ w.heap.size _ _ _ rfl (Blk.new w _ _)) rfl ?_
    exact ⟨by rw [HO2.out, HS2.out], (Below.refl w.heap.size w).alloc (Nat.le_refl _) _⟩
  · have HO2 : Hid (ee = (E : Int) - 150) := Lib.hid (by rw [HO.out, if_neg e0])
    have HS2 : Hid (ss = F + 8388608) := Lib.hid (by rw [HS.out, if_neg e0])
    clear HO HS
    have c1 : ((E : Int) == 0) = false := by rw [beq_eq_false_iff_ne]; omega
    have c2 : bits .or .u64 (F : Int) 8388608 = ((F + 8388608 : Nat) : Int) := by
      have e : 8388608 ||| F = 8388608 + F := by
        have := Nat.two_pow_add_eq_or_of_lt (i := 23) (b := F) (by omega) 1
        simpa using this.symm
      have hc := bits_or_u64_nat F 8388608 (by omega) (by decide)
      rw [Nat.or_comm, e, Nat.add_comm] at hc
      exact hc
    go_enter Try.func42, Try.ntmps42
    go_wp2
    refine bodyPost_ret (ropen_out _ _ w.heap.size _ _ _ rfl (Blk.new w _ _)) rfl ?_
    exact ⟨by rw [HO2.out, HS2.out]; try rfl, (Below.refl w.heap.size w).alloc (Nat.le_refl _) _⟩
theorem rsign_any (neg : Bool) (w : World) : Calls Try.prog 41 #[.bool neg] w fun e w' => e = .returned (.int .u32 (sgn neg : Int)) ∧ w' = w := by
  cases neg
  all_goals
    go_enter Try.func41, Try.ntmps41
    go_wp2
    go_ret
    exact ⟨rfl, rfl⟩
end Go.Proofs.Ytanccobllehnaaa
