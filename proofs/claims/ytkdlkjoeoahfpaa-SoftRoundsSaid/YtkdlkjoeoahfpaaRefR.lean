/- The contract of the document's Round: it answers as soft's Round does. -/
import Derived.Test.YtkdlkjoeoahfpaaNatQ
import Derived.Test.YtkdlkjoeoahfpaaSoftC
namespace Go.Proofs.Ytkdlkjoeoahfpaa
open Go.RowKit

def clipE (exp : Int) : Int := min (max exp (-700)) 300
theorem clip_round {way : Int} {neg : Bool} {exp : Int} {sig : Nat} {more : Bool} : roundP way neg exp sig more = roundP way neg (clipE exp) sig more := by
  unfold clipE
  by_cases h1 : exp < -700
  · have e : min (max exp (-700)) 300 = -700 := by omega
    rw [e]
    unfold roundP
    by_cases h : sig = 0 ∧ more = false
    · rw [if_pos h, if_pos h]
    · rw [if_neg h, if_neg h, if_pos (.inr (by omega)), if_pos (.inr (by omega))]
  · by_cases h2 : 300 < exp
    · have e : min (max exp (-700)) 300 = 300 := by omega
      rw [e]
      unfold roundP
      by_cases h : sig = 0 ∧ more = false
      · rw [if_pos h, if_pos h]
      · rw [if_neg h, if_neg h]
        by_cases h0 : sig = 0
        · rw [if_pos (.inl h0), if_pos (.inl h0)]
        · rw [if_neg (show ¬ (sig = 0 ∨ exp < -300) by omega), if_neg (show ¬ (sig = 0 ∨ (300 : Int) < -300) by omega), if_pos (show 200 < exp by omega), if_pos (show (200 : Int) < 300 by decide)]
    · rw [show min (max exp (-700)) 300 = exp from by omega]
theorem two_zero : two 0 = 1 := rfl
section
variable {way : Int} {neg : Bool} {E : Int} {sig k : Nat}
theorem rr_nil : roundP way neg E 0 true = rnd way neg 1 (two 400) := by
  rw [rnd_tiny way neg (by decide) (by have h1 := two_le (show 2 ≤ 400 by omega); have h2 : two 2 = 4 := rfl; omega)]
  unfold roundP
  rw [if_neg (by simp), if_pos (.inl rfl)]
theorem rr_pos (hk : E + 149 = (k : Int)) (hs64 : sig < 18446744073709551616) : roundP way neg E sig false = rnd way neg (two k * sig) 1 := by
  by_cases h0 : sig = 0
  · subst h0
    rw [Nat.mul_zero, rnd_zero way neg (by decide)]
    unfold roundP
    rw [if_pos ⟨rfl, rfl⟩]
  · refine round_rnd (by omega) hs64 (by decide) ?_
    unfold RV
    rw [show (-(E + 149)).toNat = 0 from by omega, show (E + 149).toNat = k from by omega, two_zero]
    simp only [Nat.mul_one]
    exact Nat.mul_comm _ _
theorem rr_neg (hk : -149 - E = (k : Int)) (hs64 : sig < 18446744073709551616) : roundP way neg E sig false = rnd way neg sig (two k) := by
  by_cases h0 : sig = 0
  · subst h0
    rw [rnd_zero way neg (two_pos k)]
    unfold roundP
    rw [if_pos ⟨rfl, rfl⟩]
  · refine round_rnd (by omega) hs64 (two_pos k) ?_
    unfold RV
    rw [show (-(E + 149)).toNat = k from by omega, show (E + 149).toNat = 0 from by omega, two_zero]
    simp only [Nat.one_mul, Bool.false_eq_true, if_false]
theorem more_rv {T : Nat} (hT : 0 < T) : sig * (T * two 80) < T * (two 80 * sig + 1) ∧ T * (two 80 * sig + 1) < (sig + 1) * (T * two 80) ∧ 33554432 * (T * (two 80 * sig + 1)) < (33554432 * sig + 1) * (T * two 80) := by
  have e1 : T * (two 80 * sig + 1) = sig * (T * two 80) + T := by rw [Nat.mul_add, Nat.mul_one, ← Nat.mul_assoc, Nat.mul_comm (T * two 80)]
  have e2 : (sig + 1) * (T * two 80) = sig * (T * two 80) + T * two 80 := by rw [Nat.add_mul, Nat.one_mul]
  have e3 : (33554432 * sig + 1) * (T * two 80) = 33554432 * (sig * (T * two 80)) + T * two 80 := by rw [Nat.add_mul, Nat.one_mul, Nat.mul_assoc]
  have e4 : T * 33554433 ≤ T * two 80 := Nat.mul_le_mul_left _ (by decide)
  rw [e1, e2, e3]
  generalize sig * (T * two 80) = X at *
  generalize T * two 80 = Y at *
  omega
theorem rr_more_pos (hk : E + 149 = (k : Int)) (hs : 0 < sig) (hs64 : sig < 18446744073709551616) : roundP way neg E sig true = rnd way neg (two k * (two 80 * sig + 1)) (two 80) := by
  refine round_rnd hs hs64 (two_pos _) ?_
  unfold RV
  rw [show (-(E + 149)).toNat = 0 from by omega, show (E + 149).toNat = k from by omega, two_zero]
  simp only [Nat.mul_one, if_true]
  obtain ⟨h1, h2, h3⟩ := more_rv (sig := sig) (two_pos k)
  exact ⟨h1, h2, .inr h3⟩
theorem rr_more_neg (hk : -149 - E = (k : Int)) (hs : 0 < sig) (hs64 : sig < 18446744073709551616) : roundP way neg E sig true = rnd way neg (two 80 * sig + 1) (two k * two 80) := by
  refine round_rnd hs hs64 (Nat.mul_pos (two_pos _) (two_pos _)) ?_
  unfold RV
  rw [show (-(E + 149)).toNat = k from by omega, show (E + 149).toNat = 0 from by omega, two_zero]
  simp only [Nat.one_mul, if_true]
  obtain ⟨h1, h2, h3⟩ := more_rv (sig := sig) (two_pos k)
  rw [Nat.mul_comm (two 80 * sig + 1)]
  exact ⟨h1, h2, .inr h3⟩
end
theorem sig_64 {sig : Nat} (h : sig < 18446744073709551616) : sig < two 64 := h
theorem big_pos {sig k : Nat} (h : sig < 18446744073709551616) (hk : k ≤ 1000) : two k * sig < two 10000 := by
  have h1 : two k * sig ≤ two k * two 64 := Nat.mul_le_mul_left _ (Nat.le_of_lt (sig_64 h))
  rw [← two_add] at h1
  have h2 := two_le (show k + 64 + 1 ≤ 10000 by omega)
  have h3 := two_pos (k + 64)
  rw [two_succ] at h2
  omega
theorem big_one {k : Nat} (hk : k ≤ 9000) : two k < two 10000 := by
  have h2 := two_le (show k + 1 ≤ 10000 by omega)
  have h3 := two_pos k
  rw [two_succ] at h2
  omega
theorem big_sig {sig : Nat} (h : sig < 18446744073709551616) : sig < two 10000 := by
  have := big_pos (k := 0) h (by omega)
  rw [two_zero, Nat.one_mul] at this
  exact this
theorem more_le {sig : Nat} (h : sig < 18446744073709551616) : two 80 * sig + 1 ≤ two 145 := by
  have h1 : two 80 * sig ≤ two 80 * two 64 := Nat.mul_le_mul_left _ (Nat.le_of_lt (sig_64 h))
  rw [← two_add] at h1
  have h3 := two_pos (80 + 64)
  have h4 := two_succ (80 + 64)
  have h5 : two (80 + 64 + 1) = two 145 := rfl
  omega
theorem big_more {sig k : Nat} (h : sig < 18446744073709551616) (hk : k ≤ 1000) : two k * (two 80 * sig + 1) < two 10000 := by
  have h1 : two k * (two 80 * sig + 1) ≤ two k * two 145 := Nat.mul_le_mul_left _ (more_le h)
  rw [← two_add] at h1
  have h2 := two_le (show k + 145 + 1 ≤ 10000 by omega)
  have h3 := two_pos (k + 145)
  rw [two_succ] at h2
  omega
theorem big_more1 {sig : Nat} (h : sig < 18446744073709551616) : two 80 * sig + 1 < two 10000 := by
  have := big_more (k := 0) h (by omega)
  rw [two_zero, Nat.one_mul] at this
  exact this
theorem big_two {k : Nat} (hk : k ≤ 1000) : two k * two 80 < two 10000 := by
  rw [← two_add]
  exact big_one (k := k + 80) (by omega)
theorem one_big : 1 < two 10000 := big_one (k := 0) (by omega)

set_option maxRecDepth 100000 in
set_option maxHeartbeats 1600000 in
theorem rround_any (way : Int) (neg : Bool) (exp : Int) (sig : Nat) (more : Bool) (w : World) (hs : Hid (sig < 18446744073709551616)) :
    Calls Try.prog 15 #[.int .i64 way, .bool neg, .int .i64 exp, .int .u64 (sig : Int), .bool more] w (BR w (roundP way neg exp sig more)) := by
  have HC : Hid (roundP way neg exp sig more = roundP way neg (clipE exp) sig more) := Lib.hid clip_round
  have hE : ∃ E, min (max exp (-700)) 300 = E ∧ clipE exp = E := ⟨_, rfl, rfl⟩
  obtain ⟨E, hE1, hE2⟩ := hE
  have hE3 : -700 ≤ E := by omega
  have hE4 : E ≤ 300 := by omega
  have HCE := Lib.hid hE2
  clear hE2
  cases more
  · cases hz : ((sig : Int) == 0)
    all_goals
      by_cases hp : 0 ≤ E + 149
      · obtain ⟨k, hk⟩ : ∃ k : Nat, E + 149 = (k : Int) := ⟨(E + 149).toNat, by omega⟩
        have hk2 : k ≤ 1000 := by omega
        have HE : Hid (roundP way neg exp sig false = rnd way neg (two k * sig) 1) := Lib.hid (by rw [HC.out, HCE.out, rr_pos hk hs.out])
        have hk0 : (0 : Int) ≤ (k : Int) := by omega
        clear hp
        go_enter Try.func15, Try.ntmps15
        go_wp2_with fail
        refine (of_nv sig _ hs).mono ?_
        rintro e w1 ⟨A1, k1, c1, rfl, hv1, hb1⟩
        go_wp2_with fail
        refine (of_nv 1 _ (Lib.hid (by decide))).mono ?_
        rintro e w2 ⟨A2, k2, c2, rfl, hv2, hb2⟩
        go_wp2_with fail
        refine (twice_nv (k := k) (hv1.below hb2) (ten_thirty (big_sig hs.out)) (by omega) (Lib.hid rfl)).mono ?_
        rintro e w3 ⟨A3, k3, c3, rfl, hv3, hb3⟩
        go_wp2_with fail
        refine (rounded_any hv3 (hv2.below hb3) (Lib.hid (big_pos hs.out hk2)) (Lib.hid one_big)).mono ?_
        rintro e w4 ⟨rfl, hb4⟩
        go_wp2
        go_ret
        exact ⟨by rw [HE.out]; try rfl, ((hb1.trans (hb2.mono hb1.size)).trans (hb3.mono (by have := hb1.size; have := hb2.size; omega))).trans (hb4.mono (by have := hb1.size; have := hb2.size; have := hb3.size; omega))⟩
      · obtain ⟨k, hk⟩ : ∃ k : Nat, -149 - E = (k : Int) := ⟨(-149 - E).toNat, by omega⟩
        have hk2 : k ≤ 1000 := by omega
        have HE : Hid (roundP way neg exp sig false = rnd way neg sig (two k)) := Lib.hid (by rw [HC.out, HCE.out, rr_neg hk hs.out])
        go_enter Try.func15, Try.ntmps15
        go_wp2_with fail
        refine (of_nv sig _ hs).mono ?_
        rintro e w1 ⟨A1, k1, c1, rfl, hv1, hb1⟩
        go_wp2_with fail
        refine (of_nv 1 _ (Lib.hid (by decide))).mono ?_
        rintro e w2 ⟨A2, k2, c2, rfl, hv2, hb2⟩
        go_wp2_with fail
        refine (twice_nv (k := k) hv2 (ten_thirty one_big) (by omega) (Lib.hid (Nat.mul_one (two k)))).mono ?_
        rintro e w3 ⟨A3, k3, c3, rfl, hv3, hb3⟩
        go_wp2_with fail
        refine (rounded_any ((hv1.below hb2).below hb3) hv3 (Lib.hid (big_sig hs.out)) (Lib.hid (big_one (by omega)))).mono ?_
        rintro e w4 ⟨rfl, hb4⟩
        go_wp2
        go_ret
        exact ⟨by rw [HE.out]; try rfl, ((hb1.trans (hb2.mono hb1.size)).trans (hb3.mono (by have := hb1.size; have := hb2.size; omega))).trans (hb4.mono (by have := hb1.size; have := hb2.size; have := hb3.size; omega))⟩
  · by_cases h0 : sig = 0
    · subst h0
      have HE : Hid (roundP way neg exp 0 true = rnd way neg 1 (two 400)) := Lib.hid (by rw [HC.out, rr_nil])
      go_enter Try.func15, Try.ntmps15
      go_wp2_with fail
      refine (of_nv 1 _ (Lib.hid (by decide))).mono ?_
      rintro e w1 ⟨A1, k1, c1, rfl, hv1, hb1⟩
      go_wp2_with fail
      refine (of_nv 1 _ (Lib.hid (by decide))).mono ?_
      rintro e w2 ⟨A2, k2, c2, rfl, hv2, hb2⟩
      go_wp2_with fail
      refine (twice_nv (k := 400) hv2 (ten_thirty one_big) (by omega) (Lib.hid (Nat.mul_one (two 400)))).mono ?_
      rintro e w3 ⟨A3, k3, c3, rfl, hv3, hb3⟩
      go_wp2_with fail
      refine (rounded_any ((hv1.below hb2).below hb3) hv3 (Lib.hid one_big) (Lib.hid (big_one (by omega)))).mono ?_
      rintro e w4 ⟨rfl, hb4⟩
      go_wp2
      go_ret
      exact ⟨by rw [HE.out]; try rfl, ((hb1.trans (hb2.mono hb1.size)).trans (hb3.mono (by have := hb1.size; have := hb2.size; omega))).trans (hb4.mono (by have := hb1.size; have := hb2.size; have := hb3.size; omega))⟩
    · have hz : ((sig : Int) == 0) = false := by rw [beq_eq_false_iff_ne]; omega
      by_cases hp : 0 ≤ E + 149
      · obtain ⟨k, hk⟩ : ∃ k : Nat, E + 149 = (k : Int) := ⟨(E + 149).toNat, by omega⟩
        have hk2 : k ≤ 1000 := by omega
        have HE : Hid (roundP way neg exp sig true = rnd way neg (two k * (two 80 * sig + 1)) (two 80)) := Lib.hid (by rw [HC.out, HCE.out, rr_more_pos hk (by omega) hs.out])
        have hk0 : (0 : Int) ≤ (k : Int) := by omega
        clear hp h0
        go_enter Try.func15, Try.ntmps15
        go_wp2_with fail
        refine (of_nv sig _ hs).mono ?_
        rintro e w1 ⟨A1, k1, c1, rfl, hv1, hb1⟩
        go_wp2_with fail
        refine (of_nv 1 _ (Lib.hid (by decide))).mono ?_
        rintro e w2 ⟨A2, k2, c2, rfl, hv2, hb2⟩
        go_wp2_with fail
        refine (twice_nv (k := 80) (hv1.below hb2) (ten_thirty (big_sig hs.out)) (by omega) (Lib.hid rfl)).mono ?_
        rintro e w3 ⟨A3, k3, c3, rfl, hv3, hb3⟩
        go_wp2_with fail
        refine (of_nv 1 _ (Lib.hid (by decide))).mono ?_
        rintro e w4 ⟨A4, k4, c4, rfl, hv4, hb4⟩
        go_wp2_with fail
        refine (plus_nv (hv3.below hb4) hv4 (ten_thirty (big_pos hs.out (by omega))) (ten_thirty one_big) (Lib.hid rfl)).mono ?_
        rintro e w5 ⟨A5, k5, c5, rfl, hv5, hb5⟩
        go_wp2_with fail
        refine (twice_nv (k := 80) (((hv2.below hb3).below hb4).below hb5) (ten_thirty one_big) (by omega) (Lib.hid (Nat.mul_one (two 80)))).mono ?_
        rintro e w6 ⟨A6, k6, c6, rfl, hv6, hb6⟩
        go_wp2_with fail
        refine (twice_nv (k := k) (hv5.below hb6) (ten_thirty (big_more1 hs.out)) (by omega) (Lib.hid rfl)).mono ?_
        rintro e w7 ⟨A7, k7, c7, rfl, hv7, hb7⟩
        go_wp2_with fail
        refine (rounded_any hv7 (hv6.below hb7) (Lib.hid (big_more hs.out hk2)) (Lib.hid (big_one (by omega)))).mono ?_
        rintro e w8 ⟨rfl, hb8⟩
        go_wp2
        go_ret
        have s1 := hb1.size
        have s2 := hb2.size
        have s3 := hb3.size
        have s4 := hb4.size
        have s5 := hb5.size
        have s6 := hb6.size
        have s7 := hb7.size
        exact ⟨by rw [HE.out]; try rfl, ((((((hb1.trans (hb2.mono s1)).trans (hb3.mono (by omega))).trans (hb4.mono (by omega))).trans (hb5.mono (by omega))).trans (hb6.mono (by omega))).trans (hb7.mono (by omega))).trans (hb8.mono (by omega))⟩
      · obtain ⟨k, hk⟩ : ∃ k : Nat, -149 - E = (k : Int) := ⟨(-149 - E).toNat, by omega⟩
        have hk2 : k ≤ 1000 := by omega
        have HE : Hid (roundP way neg exp sig true = rnd way neg (two 80 * sig + 1) (two k * two 80)) := Lib.hid (by rw [HC.out, HCE.out, rr_more_neg hk (by omega) hs.out])
        clear h0
        go_enter Try.func15, Try.ntmps15
        go_wp2_with fail
        refine (of_nv sig _ hs).mono ?_
        rintro e w1 ⟨A1, k1, c1, rfl, hv1, hb1⟩
        go_wp2_with fail
        refine (of_nv 1 _ (Lib.hid (by decide))).mono ?_
        rintro e w2 ⟨A2, k2, c2, rfl, hv2, hb2⟩
        go_wp2_with fail
        refine (twice_nv (k := 80) (hv1.below hb2) (ten_thirty (big_sig hs.out)) (by omega) (Lib.hid rfl)).mono ?_
        rintro e w3 ⟨A3, k3, c3, rfl, hv3, hb3⟩
        go_wp2_with fail
        refine (of_nv 1 _ (Lib.hid (by decide))).mono ?_
        rintro e w4 ⟨A4, k4, c4, rfl, hv4, hb4⟩
        go_wp2_with fail
        refine (plus_nv (hv3.below hb4) hv4 (ten_thirty (big_pos hs.out (by omega))) (ten_thirty one_big) (Lib.hid rfl)).mono ?_
        rintro e w5 ⟨A5, k5, c5, rfl, hv5, hb5⟩
        go_wp2_with fail
        refine (twice_nv (k := 80) (((hv2.below hb3).below hb4).below hb5) (ten_thirty one_big) (by omega) (Lib.hid (Nat.mul_one (two 80)))).mono ?_
        rintro e w6 ⟨A6, k6, c6, rfl, hv6, hb6⟩
        go_wp2_with fail
        refine (twice_nv (k := k) hv6 (ten_thirty (big_one (by omega))) (by omega) (Lib.hid rfl)).mono ?_
        rintro e w7 ⟨A7, k7, c7, rfl, hv7, hb7⟩
        go_wp2_with fail
        refine (rounded_any ((hv5.below hb6).below hb7) hv7 (Lib.hid (big_more1 hs.out)) (Lib.hid (big_two hk2))).mono ?_
        rintro e w8 ⟨rfl, hb8⟩
        go_wp2
        go_ret
        have s1 := hb1.size
        have s2 := hb2.size
        have s3 := hb3.size
        have s4 := hb4.size
        have s5 := hb5.size
        have s6 := hb6.size
        have s7 := hb7.size
        exact ⟨by rw [HE.out]; try rfl, ((((((hb1.trans (hb2.mono s1)).trans (hb3.mono (by omega))).trans (hb4.mono (by omega))).trans (hb5.mono (by omega))).trans (hb6.mono (by omega))).trans (hb7.mono (by omega))).trans (hb8.mono (by omega))⟩
end Go.Proofs.Ytkdlkjoeoahfpaa
