/- The contract of round's (wide).rounded. -/
import Derived.Test.YtanccobllehnaaaRdW
import Derived.BigQuiet
import Derived.Deep.QuietTactic
namespace Go.Proofs.Ytanccobllehnaaa
open Go.RowKit

/-- a number of two words, rounded, as its code has it -/
def roundWP (way : Int) (neg : Bool) (exp : Int) (v : Nat) (lost : Bool) : Nat :=
  if hiW v = 0 then roundP way neg exp v lost
  else roundP way neg (exp + (blen (hiW v) : Int)) (v / two (blen (hiW v))) (lost || decide (v % two (blen (hiW v)) ≠ 0))
theorem or_shift (x c i : Nat) (hi : i ≤ 64) (hx : x < 2 ^ i) (hc : c * 2 ^ i < 2 ^ 64) : bits .or .u64 (IntKind.u64.wrap ((c : Int) * 2 ^ i)) (x : Int) = ((x + c * 2 ^ i : Nat) : Int) := by
  have hw : IntKind.u64.wrap ((c : Int) * 2 ^ i) = ((c * 2 ^ i : Nat) : Int) := by
    rw [show ((c : Int) * 2 ^ i) = ((c * 2 ^ i : Nat) : Int) from by simp, wrap64_nat hc]
  rw [hw]
  have e := Nat.two_pow_add_eq_or_of_lt hx c
  have hxb : x < 18446744073709551616 := Nat.lt_of_lt_of_le hx (Nat.pow_le_pow_right (by omega) hi)
  have := bits_or_u64_nat (c * 2 ^ i) x hc hxb
  rw [Nat.mul_comm c, ← e] at this
  rw [Nat.mul_comm c, this]
  congr 1
  omega
theorem wide_top {v k : Nat} (hk : blen (hiW v) = k) (hk64 : k ≤ 64) : v / two k = hiW v * two (64 - k) + loW v / two k ∧ loW v / two k < two (64 - k) ∧ hiW v * two (64 - k) < 18446744073709551616 ∧ v % two k = loW v % two k ∧ (loW v * two (64 - k) % 18446744073709551616 = 0 ↔ v % two k = 0) := by
  have hlt : hiW v < two k := by rw [← hk]; exact blen_lt _
  have h64 : two (64 - k) * two k = 18446744073709551616 := by rw [← two_add, show 64 - k + k = 64 from by omega]; rfl
  have hv : v = hiW v * two (64 - k) * two k + loW v := by rw [Nat.mul_assoc, h64]; unfold hiW loW; omega
  have hlo : loW v < two (64 - k) * two k := by rw [h64]; unfold loW; omega
  have hk0 := two_pos k
  have hk1 := two_pos (64 - k)
  refine ⟨?_, ?_, ?_, ?_, ?_⟩
  · conv => lhs; rw [hv]
    rw [Nat.add_comm, Nat.add_mul_div_right _ _ hk0, Nat.add_comm]
  · exact (Nat.div_lt_iff_lt_mul hk0).2 hlo
  · rw [← h64, Nat.mul_comm (two (64 - k))]
    exact Nat.mul_lt_mul_of_pos_right hlt hk1
  · conv => lhs; rw [hv]
    rw [Nat.add_comm, Nat.add_mul_mod_self_right]
  · have e : v % two k = loW v % two k := by
      conv => lhs; rw [hv]
      rw [Nat.add_comm, Nat.add_mul_mod_self_right]
    rw [e, ← h64, Nat.mul_comm (loW v), Nat.mul_mod_mul_left]
    constructor
    · intro h
      rcases Nat.mul_eq_zero.1 h with h | h
      · omega
      · exact h
    · intro h; rw [h, Nat.mul_zero]
def WRd (w w' : World) : Prop := ∃ c n, w' = (w.alloc (.cells c 73)).drewN n
set_option maxRecDepth 100000 in
set_option maxHeartbeats 1600000 in
theorem rounded_wide {v r : Nat} {way exp : Int} {neg lost : Bool} {w : World} (h : Hid (v < 340282366920938463463374607431768211456)) (he : -1000000 ≤ exp ∧ exp ≤ 1000000) (hr : Hid (roundWP way neg exp v lost = r)) :
    Calls Try.prog 75 #[.agg #[.int .u64 (hiW v : Int), .int .u64 (loW v : Int)], .int .i64 way, .bool neg, .int .i64 exp, .bool lost] w fun e w' => e = .returned (.int .u32 (r : Int)) ∧ WRd w w' := by
  by_cases h0 : hiW v = 0
  · have hl : loW v = v := by unfold hiW at h0; unfold loW; omega
    have hv64 : v < 18446744073709551616 := by unfold hiW at h0; omega
    have HR : Hid (roundP way neg exp v lost = r) := Lib.hid (by rw [← hr.out, roundWP, if_pos h0])
    have hb0 : blen 0 = 0 := rfl
    rw [h0, hl]
    have HV := Lib.hid hv64
    clear h0 hl hv64
    go_enter Try.func75, Try.ntmps75
    go_wp2_with fail
    refine (len_any 0 _ (by decide)).mono ?_
    rintro e w' ⟨rfl, rfl⟩
    go_wp2_with fail
    refine (round_at (s := v) rfl HV.out (by omega) HR).mono ?_
    rintro e w' ⟨rfl, rfl⟩
    go_wp2
    go_ret
    exact ⟨rfl, _, 0, rfl⟩
  · have hhi : hiW v < 18446744073709551616 := by have := h.out; unfold hiW; omega
    have hk64 := blen_64 hhi
    have hk0 := blen_pos (s := hiW v) (by omega)
    obtain ⟨k, hk⟩ : ∃ k, blen (hiW v) = k := ⟨_, rfl⟩
    obtain ⟨t1, t2, t3, t4, t5⟩ := wide_top hk (by omega)
    have HR : Hid (roundP way neg (exp + (k : Int)) (v / two k) (lost || decide (v % two k ≠ 0)) = r) := Lib.hid (by rw [← hr.out, roundWP, if_neg h0, hk])
    rw [hk] at hk64 hk0
    have HK := Lib.hid hk
    have hsig : v / two k < 18446744073709551616 := by
      have h64 : two (64 - k) * two k = 18446744073709551616 := by rw [← two_add, show 64 - k + k = 64 from by omega]; rfl
      rw [Nat.div_lt_iff_lt_mul (two_pos _)]
      have e2 : hiW v * 18446744073709551616 + loW v = v := by unfold hiW loW; omega
      have hlt : hiW v < two k := by rw [← hk]; exact blen_lt _
      have h3 : (hiW v + 1) * 18446744073709551616 ≤ two k * 18446744073709551616 := Nat.mul_le_mul_right _ hlt
      have hlo : loW v < 18446744073709551616 := by unfold loW; omega
      rw [Nat.mul_comm 18446744073709551616]
      omega
    have hor : bits .or .u64 (IntKind.u64.wrap ((hiW v : Int) * 2 ^ (64 - k))) ((loW v / two k : Nat) : Int) = ((v / two k : Nat) : Int) := by
      have h1 := or_shift (loW v / two k) (hiW v) (64 - k) (by omega) t2 t3
      rw [h1, t1, Nat.add_comm]
      rfl
    have hq := quo_cast (loW v) k
    have hne : (IntKind.u64.wrap ((loW v : Int) * 2 ^ (64 - k)) != 0) = decide (v % two k ≠ 0) := by
      rw [two_cast, ← Int.natCast_mul, IntKind.wrap_u64]
      by_cases hz : v % two k = 0
      · have := t5.2 hz
        rw [decide_eq_false (by simpa using hz)]
        rw [show (((loW v * two (64 - k) : Nat) : Int) % 18446744073709551616) = 0 from by omega]
        rfl
      · have : ¬ loW v * two (64 - k) % 18446744073709551616 = 0 := fun e => hz (t5.1 e)
        rw [decide_eq_true hz, bne_iff_ne]
        omega
    have hcast : ((64 : Int) - (k : Int)).toNat = 64 - k := by omega
    have hk1 : ((k : Int) == 0) = false := by rw [beq_eq_false_iff_ne]; omega
    have hm : min k 64 = k := by omega
    have hm2 : min (64 - k) 64 = 64 - k := by omega
    clear t1 t2 t3 t4 t5 hk h0
    obtain ⟨q, hqq⟩ : ∃ q, loW v / two k = q := ⟨_, rfl⟩
    obtain ⟨sg, hsg⟩ : ∃ q, v / two k = q := ⟨_, rfl⟩
    obtain ⟨lb, hlb⟩ : ∃ q, decide (v % two k ≠ 0) = q := ⟨_, rfl⟩
    rw [hqq] at hor hq
    rw [hsg] at hor hsig HR
    rw [hlb] at hne HR
    clear hqq hsg hlb
    have hql : q < 18446744073709551616 := by
      have h1 := (lo_word v).2
      rw [quo_cast] at hq
      have h2 := Nat.div_le_self (loW v) (two k)
      omega
    generalize hiW v = hh at *
    generalize loW v = ll at *
    cases lost
    all_goals
      go_enter Try.func75, Try.ntmps75
      go_wp2_with fail
      refine (len_any hh _ hhi).mono ?_
      rintro e w' ⟨rfl, rfl⟩
      rw [HK.out]
      go_wp2_with fail
      go_quiet (fail)
      go_wp2_with fail
      refine (round_at (s := sg) rfl hsig (by omega) HR).mono ?_
      rintro e w' ⟨rfl, rfl⟩
      go_wp2
      go_ret
      exact ⟨rfl, _, nq, rfl⟩
end Go.Proofs.Ytanccobllehnaaa
