/- Plain: whole numbers come back; Floor, Ceil and Even stand as they must; roots and squares. -/
import Derived.Test.YtegeadkilolngaaRdZ
namespace Go.Proofs.Ytegeadkilolngaa

/-- a whole number to 2^24 is a float -/
theorem exact_int {n : Nat} (h : n ≤ 16777216) : ∃ k, k < 2139095040 ∧ amt k = two 149 * n := by
  by_cases h0 : n = 0
  · exact ⟨0, by omega, by rw [h0, amt_zero, Nat.mul_zero]⟩
  · have hn1 := blen_le (show 0 < n by omega)
    have hn2 := blen_lt n
    have hn3 := blen_pos (show 0 < n by omega)
    by_cases h24 : n = 16777216
    · subst h24
      have := amt_at (U := 149) (m := 16777216) (.inr (by omega)) (by omega)
      exact ⟨149 * 8388608 + 16777216, by omega, by rw [this, Nat.mul_comm]⟩
    have hb : blen n ≤ 24 := by
      by_cases hh : blen n ≤ 24
      · exact hh
      · have := two_le (show 24 ≤ blen n - 1 by omega)
        rw [two_24] at this
        omega
    obtain ⟨j, hj⟩ : ∃ j, blen n + j = 24 := ⟨24 - blen n, by omega⟩
    have h1 : two (blen n - 1) * two j ≤ n * two j := Nat.mul_le_mul_right _ hn1
    have h2 : n * two j < two (blen n) * two j := Nat.mul_lt_mul_of_pos_right hn2 (two_pos _)
    rw [← two_add, show blen n - 1 + j = 23 from by omega, two_23] at h1
    rw [← two_add, hj, two_24] at h2
    have := amt_at (U := 149 - j) (m := n * two j) (.inr h1) (by omega)
    refine ⟨(149 - j) * 8388608 + n * two j, by omega, ?_⟩
    rw [this, Nat.mul_assoc, ← two_add, show j + (149 - j) = 149 from by omega, Nat.mul_comm]
/-- the bits of a whole number -/
def bitsI (n : Nat) : Nat := cut (two 149 * n) 1
theorem bitsI_is {n : Nat} (h : n ≤ 16777216) : bitsI n < 2139095040 ∧ amt (bitsI n) = two 149 * n := by
  obtain ⟨k, h1, h2⟩ := exact_int h
  have hc : IsCut (two 149 * n) 1 k := ⟨by omega, by rw [h2, Nat.mul_one]; exact Nat.le_refl _, fun _ => by rw [Nat.mul_one, ← h2]; exact amt_lt k⟩
  unfold bitsI
  rw [hc.eq]
  exact ⟨h1, h2⟩
theorem rnd_int {way : Int} {neg : Bool} {n : Nat} (h : n ≤ 16777216) : rnd way neg (two 149 * n) 1 = sgn neg + bitsI n := by
  obtain ⟨h1, h2⟩ := bitsI_is h
  exact rnd_exact h1 (by decide) (by rw [Nat.mul_one, h2])
theorem amt_inj {a b : Nat} (h : amt a = amt b) : a = b := by
  by_cases h1 : a < b
  · have := amt_smono h1; omega
  · by_cases h2 : b < a
    · have := amt_smono h2; omega
    · omega
theorem amt_lt_iff {a b : Nat} : amt a < amt b ↔ a < b := by
  constructor
  · intro h
    by_cases h1 : a < b
    · exact h1
    · have := amt_mono (show b ≤ a by omega); omega
  · exact amt_smono
theorem bits_zero : bitsI 0 = 0 := by
  obtain ⟨h1, h2⟩ := bitsI_is (n := 0) (by omega)
  rw [Nat.mul_zero] at h2
  exact amt_nil.1 h2
theorem bits_small {n : Nat} (h : n ≤ 16777216) : bitsI n < 1593835520 := by
  obtain ⟨h1, h2⟩ := bitsI_is h
  rw [← amt_lt_iff, h2]
  have e := amt_at (U := 189) (m := 8388608) (.inr (by omega)) (by omega)
  rw [show 1593835520 = 189 * 8388608 + 8388608 from rfl, e, show 189 = 149 + 40 from rfl, two_add]
  have h3 : two 40 = 1099511627776 := rfl
  have h4 : two 149 * n ≤ two 149 * 16777216 := Nat.mul_le_mul_left _ h
  have h5 := two_pos 149
  have h6 : 8388608 * (two 149 * two 40) = two 149 * 9223372036854775808 := by rw [h3, Nat.mul_left_comm]
  omega
theorem abs_sum (neg : Bool) {k : Nat} (h : k < 2147483648) : absP (sgn neg + k) = k := by
  unfold absP
  cases neg
  · show (0 + k) % 2147483648 = k; omega
  · show (2147483648 + k) % 2147483648 = k; omega
theorem oN_sum (neg : Bool) {k : Nat} (h : k < 2147483648) : oN (sgn neg + k) = neg := by
  unfold oN
  cases neg
  · exact decide_eq_false (by show ¬ 2147483648 ≤ 0 + k; omega)
  · exact decide_eq_true (by show 2147483648 ≤ 2147483648 + k; omega)
theorem sum_self {a : Nat} (h : a < 4294967296) : sgn (oN a) + absP a = a := by
  unfold oN absP
  by_cases hs : 2147483648 ≤ a
  · rw [decide_eq_true hs]; show 2147483648 + a % 2147483648 = a; omega
  · rw [decide_eq_false hs]; show 0 + a % 2147483648 = a; omega
/-- what is cut, of a whole one -/
theorem cut_whole {a n : Nat} (h : amt (absP a) = two 149 * n) : cutA a = n ∧ (oE a < 0 → oS a % two (-oE a).toNat = 0) := by
  have hT := two_pos 149
  by_cases he : 0 ≤ oE a
  · refine ⟨?_, fun h => by omega⟩
    unfold cutA
    rw [if_pos he]
    have e := ofin_amt (a := a)
    rw [h, show (oE a + 149).toNat = (oE a).toNat + 149 from by omega, two_add, ← Nat.mul_assoc, Nat.mul_comm (two 149)] at e
    exact Nat.eq_of_mul_eq_mul_right hT e
  · obtain ⟨ob1, ob2, ob3⟩ := o_bounds a
    obtain ⟨d, hd⟩ : ∃ d : Nat, oE a = -(d : Int) := ⟨(-oE a).toNat, by omega⟩
    obtain ⟨p1, p2, p3, p4⟩ := whole_parts hd (by omega) (by omega)
    have e := ofin_amt (a := a)
    have hdd : two 149 = two d * two (149 - d) := by rw [← two_add]; congr 1; omega
    rw [h, hd, show (-(d : Int) + 149).toNat = 149 - d from by omega, hdd, Nat.mul_right_comm] at e
    have e2 := Nat.eq_of_mul_eq_mul_right (two_pos _) e
    have hm : oS a % two d = 0 := by rw [e2]; exact Nat.mul_mod_right _ _
    refine ⟨?_, fun _ => by rw [hd, show (-(-(d : Int))).toNat = d from by omega]; exact hm⟩
    rw [p1, e2]
    exact Nat.mul_div_cancel_left n (two_pos d)
theorem whole_self {how a n : Nat} (hn : nanP a = false) (h : amt (absP a) = two 149 * n) : wholeP how a = a := by
  unfold wholeP
  rw [if_neg (by rw [hn]; decide)]
  by_cases h1 : infP a = true ∨ 0 ≤ oE a ∨ oS a = 0
  · rw [if_pos h1]
  · rw [if_neg h1, if_pos]
    refine (cut_whole h).2 ?_
    omega
/-- whole numbers come back -/
theorem int_back {n : Int} (h : -16777216 ≤ n ∧ n ≤ 16777216) : toIntP (fromP 0 n) = n ∧ fromP 0 n < 4294967296 := by
  have hm : n.natAbs ≤ 16777216 := by omega
  obtain ⟨k1, k2⟩ := bitsI_is hm
  have k3 := bits_small hm
  have hf : fromP 0 n = if n.natAbs = 0 then sgn (decide (n < 0)) else sgn (decide (n < 0)) + bitsI n.natAbs := by
    unfold fromP
    rw [from_law (by omega), rnd_int hm]
  by_cases h0 : n.natAbs = 0
  · have hn0 : n = 0 := by omega
    rw [hf, if_pos h0, hn0]
    exact ⟨by kernel_rfl, by decide⟩
  · rw [if_neg h0] at hf
    have hab : absP (fromP 0 n) = bitsI n.natAbs := by rw [hf]; exact abs_sum _ (by omega)
    have hon : oN (fromP 0 n) = decide (n < 0) := by rw [hf]; exact oN_sum _ (by omega)
    have hna : nanP (fromP 0 n) = false := by rw [hf]; exact nan_sum _ (by omega)
    have hc := (cut_whole (a := fromP 0 n) (n := n.natAbs) (by rw [hab, k2])).1
    constructor
    · unfold toIntP
      rw [if_neg (by rw [hna]; decide), if_neg (by rw [hab]; omega), hon, hc]
      by_cases hneg : n < 0
      · rw [decide_eq_true hneg, if_pos rfl]; omega
      · rw [decide_eq_false hneg, if_neg (by decide)]; omega
    · rw [hf]
      cases decide (n < 0)
      · show 0 + _ < _; omega
      · show 2147483648 + _ < _; omega
theorem place_sum (neg : Bool) {k : Nat} (h : k < 2147483648) : placeP (sgn neg + k) = if neg then -(k : Int) else (k : Int) := by
  unfold placeP
  cases neg
  · show (if 2147483648 ≤ 0 + k then -(((0 + k) % 2147483648 : Nat) : Int) else (((0 + k) % 2147483648 : Nat) : Int)) = k
    rw [if_neg (by omega)]
    omega
  · show (if 2147483648 ≤ 2147483648 + k then -(((2147483648 + k) % 2147483648 : Nat) : Int) else (((2147483648 + k) % 2147483648 : Nat) : Int)) = -(k : Int)
    rw [if_pos (by omega)]
    omega
/-- how Floor, Ceil, Even stand -/
structure Stand (a f c e : Nat) : Prop where
  fl : f < 4294967296
  cl : c < 4294967296
  el : e < 4294967296
  af : lessP a f = false
  ca : lessP c a = false
  fa : equalP f a = equalP c a
  ef : equalP e f = true ∨ equalP e c = true
  w0 : wholeP 0 f = f
  w1 : wholeP 1 f = f
  w2 : wholeP 2 f = f
  w3 : wholeP 0 c = c
  w4 : wholeP 2 c = c
  w5 : wholeP 1 e = e
theorem less_self (a : Nat) : lessP a a = false := by unfold lessP; rw [decide_eq_false (Int.lt_irrefl _), Bool.and_false]
theorem equal_self {a : Nat} (h : nanP a = false) : equalP a a = true := by unfold equalP; rw [h, decide_eq_true rfl]; rfl
theorem stand_self {a n : Nat} (ha : a < 4294967296) (hn : nanP a = false) (h : amt (absP a) = two 149 * n) : Stand a (wholeP 0 a) (wholeP 1 a) (wholeP 2 a) := by
  have w : ∀ how, wholeP how a = a := fun how => whole_self hn h
  rw [w, w, w]
  exact ⟨ha, ha, ha, less_self a, less_self a, rfl, .inl (equal_self hn), w 0, w 1, w 2, w 0, w 2, w 1⟩
set_option maxHeartbeats 1000000 in
theorem stand_any {a : Nat} (ha : a < 4294967296) (hn : nanP a = false) (hi : infP a = false) : Stand a (wholeP 0 a) (wholeP 1 a) (wholeP 2 a) := by
  by_cases hw : ∃ n, amt (absP a) = two 149 * n
  · obtain ⟨n, h⟩ := hw
    exact stand_self ha hn h
  obtain ⟨ob1, ob2, ob3⟩ := o_bounds a
  have la := fin_abs hn hi
  have he : oE a < 0 := by
    rcases Int.lt_or_le (oE a) 0 with h | h
    · exact h
    · refine absurd ⟨oS a * two (oE a).toNat, ?_⟩ hw
      rw [← ofin_amt, show (oE a + 149).toNat = (oE a).toNat + 149 from by omega, two_add, ← Nat.mul_assoc, Nat.mul_comm]
  have hs : ¬ oS a = 0 := fun h => hw ⟨0, by rw [o_nil.1 h, amt_zero, Nat.mul_zero]⟩
  obtain ⟨d, hd⟩ : ∃ d : Nat, oE a = -(d : Int) := ⟨(-oE a).toNat, by omega⟩
  obtain ⟨p1, p2, p3, p4⟩ := whole_parts hd (by omega) (by omega)
  have hdt : (-oE a).toNat = d := by omega
  have hl : ¬ oS a % two d = 0 := fun h => hw ⟨cutA a, (p2.2 h).symm⟩
  obtain ⟨n, hnn⟩ : ∃ n, cutA a = n := ⟨_, rfl⟩
  rw [hnn] at p1 p2
  have hn24 : n < 16777216 := by rw [p1]; exact Nat.lt_of_le_of_lt (Nat.div_le_self _ _) ob1
  -- the amount stands between n and n + 1
  have hdm := Nat.div_add_mod (oS a) (two d)
  have hml := Nat.mod_lt (oS a) (two_pos d)
  rw [← p1] at hdm
  have hamt : amt (absP a) = oS a * two (149 - d) := by rw [← ofin_amt, hd]; congr 2; omega
  have hdd : two 149 = two d * two (149 - d) := by rw [← two_add]; congr 1; omega
  have b1 : two 149 * n < amt (absP a) := by
    rw [hamt, hdd, Nat.mul_right_comm]
    exact Nat.mul_lt_mul_of_pos_right (by omega) (two_pos _)
  have b2 : amt (absP a) < two 149 * (n + 1) := by
    rw [hamt, hdd, Nat.mul_right_comm]
    refine Nat.mul_lt_mul_of_pos_right ?_ (two_pos _)
    rw [Nat.mul_add, Nat.mul_one]
    omega
  obtain ⟨k1, k2⟩ := bitsI_is (n := n) (by omega)
  obtain ⟨m1, m2⟩ := bitsI_is (n := n + 1) (by omega)
  have c1 : bitsI n < absP a := amt_lt_iff.1 (by rw [k2]; exact b1)
  have c2 : absP a < bitsI (n + 1) := amt_lt_iff.1 (by rw [m2]; exact b2)
  have hwp : ∀ how, wholeP how a = sgn (oN a) + bitsI n ∨ wholeP how a = sgn (oN a) + bitsI (n + 1) := fun how => by
    unfold wholeP
    rw [if_neg (by rw [hn]; decide), if_neg (by rw [hi]; simp [hs]; omega), hdt, if_neg hl, ← p1]
    split
    · right; rw [whole_fin (by omega), rnd_int (by omega)]
    · left; rw [whole_fin (by omega), rnd_int (by omega)]
  have hw0 : wholeP 0 a = sgn (oN a) + (if oN a = true then bitsI (n + 1) else bitsI n) := by
    unfold wholeP
    rw [if_neg (by rw [hn]; decide), if_neg (by rw [hi]; simp [hs]; omega), hdt, if_neg hl, ← p1]
    have hu : ∀ half od, upP 0 (oN a) half od = oN a := fun _ _ => rfl
    rw [hu]
    by_cases hb : oN a = true
    · rw [if_pos hb, if_pos hb, whole_fin (by omega), rnd_int (by omega)]
    · rw [if_neg hb, if_neg hb, whole_fin (by omega), rnd_int (by omega)]
  have hw1 : wholeP 1 a = sgn (oN a) + (if oN a = true then bitsI n else bitsI (n + 1)) := by
    unfold wholeP
    rw [if_neg (by rw [hn]; decide), if_neg (by rw [hi]; simp [hs]; omega), hdt, if_neg hl, ← p1]
    have hu : ∀ half od, upP 1 (oN a) half od = !oN a := fun _ _ => rfl
    rw [hu]
    by_cases hb : oN a = true
    · rw [if_pos hb, hb, if_neg (by decide), whole_fin (by omega), rnd_int (by omega)]
    · rw [if_neg hb, bool_f hb, if_pos (by decide), whole_fin (by omega), rnd_int (by omega)]
  have hself : ∀ (m : Nat), m ≤ 16777216 → ∀ (neg : Bool) (how : Nat), wholeP how (sgn neg + bitsI m) = sgn neg + bitsI m := fun m hm neg how => by
    obtain ⟨x1, x2⟩ := bitsI_is hm
    exact whole_self (nan_sum neg (by omega)) (by rw [abs_sum neg (by omega)]; exact x2)
  have s1 := hself n (by omega)
  have s2 := hself (n + 1) (by omega)
  clear hself
  generalize bitsI n = kn at *
  generalize bitsI (n + 1) = km at *
  have hlt : ∀ (neg : Bool) (k : Nat), k < 2139095040 → sgn neg + k < 4294967296 := fun neg k hk => by
    have := sgn_le neg
    omega
  have hpa : placeP a = if oN a then -(absP a : Int) else (absP a : Int) := by
    have := place_sum (oN a) (k := absP a) (by omega)
    rw [sum_self ha] at this
    exact this
  have h2 := hwp 2
  rw [hw0, hw1]
  cases hs : oN a
  · rw [hs] at hpa h2
    rw [if_neg (by decide), if_neg (by decide)]
    have q1 := place_sum false (k := kn) (by omega)
    have q2 := place_sum false (k := km) (by omega)
    simp only [Bool.false_eq_true, if_false] at hpa q1 q2
    refine ⟨hlt false kn k1, hlt false km m1, ?_, ?_, ?_, ?_, ?_, s1 false 0, s1 false 1, s1 false 2, s2 false 0, s2 false 2, ?_⟩
    · rcases h2 with h | h <;> rw [h]
      · exact hlt false kn k1
      · exact hlt false km m1
    · unfold lessP; rw [hpa, q1, decide_eq_false (by omega), Bool.and_false]
    · unfold lessP; rw [hpa, q2, decide_eq_false (by omega), Bool.and_false]
    · unfold equalP; rw [hpa, q1, q2, decide_eq_false (by omega), decide_eq_false (by omega), Bool.and_false, Bool.and_false]
    · rcases h2 with h | h <;> rw [h]
      · exact .inl (equal_self (nan_sum _ (Nat.le_of_lt k1)))
      · exact .inr (equal_self (nan_sum _ (Nat.le_of_lt m1)))
    · rcases h2 with h | h <;> rw [h]
      · exact s1 false 1
      · exact s2 false 1
  · rw [hs] at hpa h2
    rw [if_pos rfl, if_pos rfl]
    have q1 := place_sum true (k := kn) (by omega)
    have q2 := place_sum true (k := km) (by omega)
    simp only [if_true] at hpa q1 q2
    refine ⟨hlt true km m1, hlt true kn k1, ?_, ?_, ?_, ?_, ?_, s2 true 0, s2 true 1, s2 true 2, s1 true 0, s1 true 2, ?_⟩
    · rcases h2 with h | h <;> rw [h]
      · exact hlt true kn k1
      · exact hlt true km m1
    · unfold lessP; rw [hpa, q2, decide_eq_false (by omega), Bool.and_false]
    · unfold lessP; rw [hpa, q1, decide_eq_false (by omega), Bool.and_false]
    · unfold equalP; rw [hpa, q1, q2, decide_eq_false (by omega), decide_eq_false (by omega), Bool.and_false, Bool.and_false]
    · rcases h2 with h | h <;> rw [h]
      · exact .inr (equal_self (nan_sum _ (Nat.le_of_lt k1)))
      · exact .inl (equal_self (nan_sum _ (Nat.le_of_lt m1)))
    · rcases h2 with h | h <;> rw [h]
      · exact s1 true 1
      · exact s2 true 1
end Go.Proofs.Ytegeadkilolngaa
