/- The contract of round.moved. -/
import Derived.Test.YtanccobllehnaaaRdO
import Derived.Test.YtanccobllehnaaaSoftW
namespace Go.Proofs.Ytanccobllehnaaa
open Go.RowKit

/-- a number shifted, and whether something was lost -/
def mvV (s : Nat) (k : Int) : Nat := if 0 ≤ k then s * two k.toNat else s / two (-k).toNat
def mvL (s : Nat) (k : Int) : Bool := if 0 ≤ k then false else decide (s % two (-k).toNat ≠ 0)
/-- two words -/
def hiW (v : Nat) : Nat := v / 18446744073709551616
def loW (v : Nat) : Nat := v % 18446744073709551616
def wideV (v : Nat) : Value := .agg #[.int .u64 (hiW v : Int), .int .u64 (loW v : Int)]
theorem moved_out (w : World) (tmps : Array Value) (g : Nat) (c0 c1 c2 : Value) (h4 : tmps.getD 4 undef = .pointer (some ⟨g, 0, none⟩)) (h5 : tmps.getD 5 undef = c2) (hk : Blk w g 73 #[c0, c1]) :
    (results Try.f73 tmps).run Try.prog w = .ok (.tuple #[.agg #[c0, c1], c2]) w := by
  have k0 := hk.cell 0
  have k1 := hk.cell 1
  simp at k0 k1
  rw [Array.getD_eq_getD_getElem?] at h4 h5
  simp [results, Try.results73, go_sem, h4, h5, k0, k1]
  try rfl
theorem mv_small {s d : Nat} (h : 64 ≤ d) (hs : s < 18446744073709551616) : s / two d = 0 ∧ s % two d = s := by
  have h1 := two_le h
  rw [two_64] at h1
  exact ⟨Nat.div_eq_of_lt (by omega), Nat.mod_eq_of_lt (by omega)⟩
set_option maxRecDepth 100000 in
set_option maxHeartbeats 1600000 in
theorem moved_any (s : Nat) (k : Int) (w : World) (hs : Hid (s < 18446744073709551616)) (hk : -1000000 ≤ k ∧ k ≤ 127) (hv : Hid (0 ≤ k → s * two k.toNat < 340282366920938463463374607431768211456)) :
    Calls Try.prog 73 #[.int .u64 (s : Int), .int .i64 k] w fun e w' => e = .returned (.tuple #[.agg #[.int .u64 (hiW (mvV s k) : Int), .int .u64 (loW (mvV s k) : Int)], .bool (mvL s k)]) ∧ Below w.heap.size w w' := by
  by_cases c1 : 64 ≤ k
  · obtain ⟨n, hn⟩ : ∃ n : Nat, (k - 64).toNat = n := ⟨_, rfl⟩
    have hkn : k.toNat = n + 64 := by omega
    have hlt : s * two n < 18446744073709551616 := by
      have := hv.out (by omega)
      rw [hkn, two_add, ← Nat.mul_assoc, two_64] at this
      generalize s * two n = x at *
      omega
    have HV : Hid (mvV s k = s * two n * 18446744073709551616) := Lib.hid (by unfold mvV; rw [if_pos (by omega), hkn, two_add, ← Nat.mul_assoc, two_64])
    have HL : Hid (mvL s k = false) := Lib.hid (by unfold mvL; rw [if_pos (by omega)])
    have HW : Hid (hiW (s * two n * 18446744073709551616) = s * two n ∧ loW (s * two n * 18446744073709551616) = 0) := Lib.hid (by unfold hiW loW; exact ⟨Nat.mul_div_cancel _ (by decide), Nat.mul_mod_left _ _⟩)
    have hw : IntKind.u64.wrap ((s : Int) * 2 ^ n) = ((s * two n : Nat) : Int) := by rw [two_cast, ← Int.natCast_mul, wrap64_nat hlt]
    have hm : min n 64 = n := by omega
    clear hkn hlt
    go_enter Try.func73, Try.ntmps73
    go_wp2
    refine bodyPost_ret (moved_out _ _ w.heap.size _ _ (.bool false) rfl rfl (Blk.new w _ _)) rfl ?_
    exact ⟨by rw [HV.out, HL.out, HW.out.1, HW.out.2]; try rfl, (Below.refl w.heap.size w).alloc (Nat.le_refl _) _⟩
  by_cases c2 : 0 < k
  · obtain ⟨n, hn⟩ : ∃ n : Nat, k = (n : Int) := ⟨k.toNat, by omega⟩
    subst hn
    have hn1 : n < 64 := by omega
    have h64 : ((64 : Int) - (n : Int)).toNat = 64 - n := by omega
    have HV : Hid (mvV s n = s * two n) := Lib.hid (by unfold mvV; rw [if_pos (by omega)]; rfl)
    have HL : Hid (mvL s n = false) := Lib.hid (by unfold mvL; rw [if_pos (by omega)])
    have hw : IntKind.u64.wrap ((s : Int) * 2 ^ n) = ((loW (s * two n) : Nat) : Int) := by rw [two_cast, ← Int.natCast_mul, IntKind.wrap_u64]; unfold loW; omega
    have hq : (s : Int) / 2 ^ (64 - n) = ((hiW (s * two n) : Nat) : Int) := by
      rw [quo_cast]
      unfold hiW
      have e : (18446744073709551616 : Nat) = two (64 - n) * two n := by rw [← two_add, show 64 - n + n = 64 from by omega]; rfl
      rw [e, Nat.mul_div_mul_right _ _ (two_pos n)]
    have hlo : loW (s * two n) < 18446744073709551616 := by unfold loW; omega
    have hhi : hiW (s * two n) < 18446744073709551616 := by
      have h1 := Nat.div_le_self s (two (64 - n))
      rw [quo_cast] at hq
      have h2 := hs.out
      omega
    obtain ⟨lo, hlo'⟩ : ∃ x, loW (s * two n) = x := ⟨_, rfl⟩
    obtain ⟨hi, hhi'⟩ : ∃ x, hiW (s * two n) = x := ⟨_, rfl⟩
    rw [hlo'] at hw hlo
    rw [hhi'] at hq hhi
    have HLO := Lib.hid hlo'
    have HHI := Lib.hid hhi'
    clear hlo' hhi'
    go_enter Try.func73, Try.ntmps73
    go_wp2
    go_region
    go_wp2
    refine bodyPost_ret (moved_out _ _ w.heap.size _ _ (.bool false) rfl rfl (Blk.new w _ _).drew) rfl ?_
    exact ⟨by rw [HV.out, HL.out, HLO.out, HHI.out], below_drewN ((Below.refl w.heap.size w).alloc (Nat.le_refl _) _) 1⟩
  by_cases c3 : k = 0
  · subst c3
    have HV : Hid (mvV s 0 = s) := Lib.hid (by unfold mvV; rw [if_pos (by omega)]; exact Nat.mul_one s)
    have HL : Hid (mvL s 0 = false) := Lib.hid (by unfold mvL; rw [if_pos (by omega)])
    have HW : Hid (hiW s = 0 ∧ loW s = s) := Lib.hid (by have := hs.out; unfold hiW loW; omega)
    go_enter Try.func73, Try.ntmps73
    go_wp2
    refine bodyPost_ret (moved_out _ _ w.heap.size _ _ (.bool false) rfl rfl (Blk.new w _ _)) rfl ?_
    exact ⟨by rw [HV.out, HL.out, HW.out.1, HW.out.2]; try rfl, (Below.refl w.heap.size w).alloc (Nat.le_refl _) _⟩
  obtain ⟨d, hd⟩ : ∃ d : Nat, k = -(d : Int) := ⟨(-k).toNat, by omega⟩
  subst hd
  have hd1 : 1 ≤ d := by omega
  have b3 : (-(d : Int) == 0) = false := by rw [beq_eq_false_iff_ne]; omega
  have HV : Hid (mvV s (-(d : Int)) = s / two d) := Lib.hid (by unfold mvV; rw [if_neg (by omega)]; congr 2; omega)
  have HL : Hid (mvL s (-(d : Int)) = decide (s % two d ≠ 0)) := Lib.hid (by unfold mvL; rw [if_neg (by omega)]; congr 4; omega)
  by_cases c4 : 64 ≤ d
  · have HZ := Lib.hid (mv_small c4 hs.out)
    have hne : ((s : Int) != 0) = decide (s ≠ 0) := by
      by_cases h0 : s = 0
      · subst h0; rfl
      · rw [decide_eq_true h0, bne_iff_ne]; omega
    obtain ⟨lb, hlb⟩ : ∃ x, decide (s ≠ 0) = x := ⟨_, rfl⟩
    rw [hlb] at hne
    have HB := Lib.hid hlb
    clear hlb
    go_enter Try.func73, Try.ntmps73
    go_wp2
    refine bodyPost_ret (moved_out _ _ w.heap.size _ _ (.bool lb) rfl rfl (Blk.new w _ _)) rfl ?_
    exact ⟨by rw [HV.out, HL.out, HZ.out.1, HZ.out.2, HB.out]; rfl, (Below.refl w.heap.size w).alloc (Nat.le_refl _) _⟩
  · have hq := quo_cast s d
    have hm : min d 64 = d := by omega
    obtain ⟨t, ht⟩ : ∃ t, s / two d = t := ⟨_, rfl⟩
    have hdm := Nat.div_add_mod s (two d)
    rw [ht, Nat.mul_comm] at hdm
    have hts := hs.out
    have hw : IntKind.u64.wrap ((t : Int) * 2 ^ d) = ((t * two d : Nat) : Int) := by rw [two_cast, ← Int.natCast_mul, wrap64_nat (by omega)]
    have hne : (((t * two d : Nat) : Int) != (s : Int)) = decide (s % two d ≠ 0) := by
      by_cases h0 : s % two d = 0
      · rw [decide_eq_false (by simpa using h0)]
        have : t * two d = s := by omega
        rw [this]
        simp
      · rw [decide_eq_true h0, bne_iff_ne]; omega
    have htl : t < 18446744073709551616 := by
      have := Nat.div_le_self s (two d)
      omega
    rw [ht] at hq
    have HT := Lib.hid ht
    have HH : Hid (hiW t = 0 ∧ loW t = t) := Lib.hid (by unfold hiW loW; omega)
    clear ht hdm hts
    generalize decide (s % two d ≠ 0) = lb at *
    generalize t * two d = td at *
    go_enter Try.func73, Try.ntmps73
    go_wp2
    go_region
    go_wp2
    refine bodyPost_ret (moved_out _ _ w.heap.size _ _ (.bool lb) rfl rfl (Blk.new w _ _).drew) rfl ?_
    exact ⟨by rw [HV.out, HL.out, HT.out, HH.out.1, HH.out.2]; rfl, below_drewN ((Below.refl w.heap.size w).alloc (Nat.le_refl _) _) 1⟩
end Go.Proofs.Ytanccobllehnaaa
