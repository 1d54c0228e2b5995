/- Plain: Exp, Log and the curves of numbers are numbers; what is held stays between. -/
import Derived.Test.YtegeadkilolngaaElK
import Derived.Test.YtegeadkilolngaaElE
import Derived.Test.YtegeadkilolngaaElG
namespace Go.Proofs.Ytegeadkilolngaa

theorem ok_sum (neg : Bool) {k : Nat} (h : k ≤ 2139095040) : Ok (sgn neg + k) := by
  refine ⟨?_, by rw [abs_sum neg (by omega)]; exact h⟩
  cases neg
  · show 0 + k < _; omega
  · show 2147483648 + k < _; omega
theorem ok_huge (way : Int) (neg : Bool) : Ok (hugeP way neg) := by
  unfold hugeP
  refine ok_sum neg ?_
  split <;> omega
theorem ok_finU (way : Int) (neg : Bool) (o : Nat) : Ok (finU way neg o) := by
  unfold Go.Proofs.Ytegeadkilolngaa.finU
  split
  · exact ok_huge _ _
  · exact ok_sum neg (by omega)
theorem ok_round (way : Int) (neg : Bool) (exp : Int) (sig : Nat) (more : Bool) : Ok (roundP way neg exp sig more) := by
  unfold roundP
  split
  · exact (ok_sgn _).1
  · split
    · unfold tinyP
      refine ok_sum neg ?_
      split <;> omega
    · split
      · exact ok_huge _ _
      · dsimp only
        split
        · exact ok_finU _ _ _
        · split
          · exact ok_finU _ _ _
          · exact ok_finU _ _ _
theorem ok_scale {a : Nat} (n : Int) (h : Ok a) : Ok (scaleP a n) := by
  unfold scaleP
  rw [if_neg (by rw [h.nan]; decide)]
  split
  · exact h
  · exact ok_round _ _ _ _ _
theorem bd_scale {a i N : Nat} {n : Int} (h : Bd a i) (hn : n ≤ (N : Int)) (hN : N ≤ 1000) (h23 : 23 ≤ i) (hi : i + N ≤ 276) : Bd (scaleP a n) (i + N) := by
  unfold scaleP
  rw [if_neg (by rw [h.ok.nan]; decide)]
  by_cases h0 : infP a = true ∨ oS a = 0
  · rw [if_pos h0]; exact h.mono (by omega)
  · rw [if_neg h0]
    obtain ⟨ob1, ob2, ob3⟩ := o_bounds a
    have hs0 : 0 < oS a := by
      rcases Nat.eq_zero_or_pos (oS a) with e | e
      · exact absurd (.inr e) h0
      · exact e
    obtain ⟨E, hE⟩ : ∃ E, oE a + max (-1000) (min n 1000) = E := ⟨_, rfl⟩
    have hle : (E + 149).toNat ≤ (oE a + 149).toNat + N := by omega
    rw [hE]
    have hq := two_pos (-(E + 149)).toNat
    have hr : roundP 0 (oN a) E (oS a) false = rnd 0 (oN a) (oS a * two (E + 149).toNat) (two (-(E + 149)).toNat) := by
      refine round_rnd hs0 (by omega) hq ?_
      unfold RV
      simp only [Bool.false_eq_true, if_false]
      rw [Nat.mul_assoc]
    rw [hr]
    refine bd_of (by omega) hi hq (rnd_val _ _ hq) ?_
    have e1 : (if oN a = true then -((oS a * two (E + 149).toNat : Nat) : Int) else ((oS a * two (E + 149).toNat : Nat) : Int)).natAbs = oS a * two (E + 149).toNat := by
      split <;> omega
    rw [e1]
    have e2 : oS a * two (E + 149).toNat ≤ two i * two N := by
      refine Nat.le_trans (Nat.mul_le_mul_left _ (two_le hle)) ?_
      rw [two_add, ← Nat.mul_assoc, ofin_amt]
      exact Nat.mul_le_mul_right _ h.2
    rw [two_add]
    exact Nat.le_trans e2 (Nat.le_mul_of_pos_right _ hq)
/-- the even whole one, without its sign -/
def evk (b : Nat) : Nat :=
  if 0 ≤ oE b ∨ oS b = 0 then absP b else if oS b % two (-oE b).toNat = 0 then absP b
  else bitsI (if upP 2 false (halfP (oS b % two (-oE b).toNat) (-oE b).toNat) (decide (oS b / two (-oE b).toNat % 2 = 1)) = true then oS b / two (-oE b).toNat + 1 else oS b / two (-oE b).toNat)
theorem up_two (neg : Bool) (h : Int) (o : Bool) : upP 2 neg h o = upP 2 false h o := rfl
theorem round_int (neg : Bool) {n : Nat} (h : n ≤ 16777216) : roundP 0 neg 0 n false = sgn neg + bitsI n := by
  by_cases h0 : n = 0
  · subst h0
    unfold roundP
    rw [if_pos ⟨rfl, rfl⟩, bits_zero]
    rfl
  · rw [← rnd_int h]
    refine round_exact (by omega) (by omega) (by decide) ?_
    show n * two 149 = _
    rw [Nat.mul_comm]
theorem even_is {b : Nat} (h : Fn b) : wholeP 2 b = sgn (oN b) + evk b ∧ evk b < 2139095040 ∧ amt (evk b) ≤ amt (absP b) + two 149 ∧ amt (absP b) ≤ amt (evk b) + two 149 := by
  have h149 := two_pos 149
  unfold wholeP evk
  rw [if_neg (by rw [h.ok.nan]; decide)]
  by_cases h1 : 0 ≤ oE b ∨ oS b = 0
  · rw [if_pos (.inr h1), if_pos h1]
    exact ⟨(sum_self h.1).symm, h.2, by omega, by omega⟩
  · rw [if_neg (by rw [h.inf]; simpa using h1), if_neg h1]
    obtain ⟨ob1, ob2, ob3⟩ := o_bounds b
    obtain ⟨d, hd⟩ : ∃ d : Nat, oE b = -(d : Int) := ⟨(-oE b).toNat, by omega⟩
    have hd1 : (-oE b).toNat = d := by omega
    rw [hd1]
    by_cases h2 : oS b % two d = 0
    · rw [if_pos h2, if_pos h2]
      exact ⟨(sum_self h.1).symm, h.2, by omega, by omega⟩
    · rw [if_neg h2, if_neg h2, up_two (oN b)]
      have e := ofin_amt (a := b)
      rw [hd, show (-(d : Int) + 149).toNat = 149 - d from by omega] at e
      have hdd : two 149 = two d * two (149 - d) := by rw [← two_add]; congr 1; omega
      have hdiv := Nat.div_add_mod (oS b) (two d)
      have hmod := Nat.mod_lt (oS b) (two_pos d)
      have hle := Nat.div_le_self (oS b) (two d)
      obtain ⟨n, hn, hn2⟩ : ∃ n, (if upP 2 false (halfP (oS b % two d) d) (decide (oS b / two d % 2 = 1)) = true then oS b / two d + 1 else oS b / two d) = n ∧ (n = oS b / two d ∨ n = oS b / two d + 1) := by
        refine ⟨_, rfl, ?_⟩
        split
        · exact .inr rfl
        · exact .inl rfl
      rw [hn]
      obtain ⟨b1, b2⟩ := bitsI_is (n := n) (by omega)
      refine ⟨round_int _ (by omega), b1, ?_, ?_⟩
      · rw [b2, ← e, hdd]
        have h3 : two d * n ≤ oS b + two d := by
          rcases hn2 with rfl | rfl
          · omega
          · rw [Nat.mul_add, Nat.mul_one]; omega
        have := Nat.mul_le_mul_right (two (149 - d)) h3
        rw [Nat.add_mul, Nat.mul_right_comm] at this
        exact this
      · rw [b2, ← e, hdd]
        have h3 : oS b ≤ two d * n + two d := by
          rcases hn2 with rfl | rfl
          · omega
          · rw [Nat.mul_add, Nat.mul_one]; omega
        have := Nat.mul_le_mul_right (two (149 - d)) h3
        rw [Nat.add_mul, Nat.mul_right_comm] at this
        exact this
theorem bd_even {b i : Nat} (h : Bd b i) (h1 : 149 ≤ i) (h2 : i ≤ 275) : Bd (wholeP 2 b) (i + 1) := by
  obtain ⟨e1, e2, e3, e4⟩ := even_is h.1
  rw [e1]
  refine ⟨⟨(ok_sum (oN b) (Nat.le_of_lt e2)).1, by rw [abs_sum _ (by omega)]; exact e2⟩, ?_⟩
  rw [abs_sum _ (by omega)]
  have := h.2
  have := two_le h1
  rw [two_succ]
  omega
theorem cutA_amt {a : Nat} : cutA a * two 149 ≤ amt (absP a) := by
  rw [← ofin_amt]
  obtain ⟨ob1, ob2, ob3⟩ := o_bounds a
  unfold cutA
  by_cases he : 0 ≤ oE a
  · rw [if_pos he, show (oE a + 149).toNat = (oE a).toNat + 149 from by omega, two_add, ← Nat.mul_assoc]
    exact Nat.le_refl _
  · rw [if_neg he]
    obtain ⟨d, hd⟩ : ∃ d : Nat, oE a = -(d : Int) := ⟨(-oE a).toNat, by omega⟩
    rw [show (-oE a).toNat = d from by omega, show (oE a + 149).toNat = 149 - d from by omega]
    have hdd : two 149 = two d * two (149 - d) := by rw [← two_add]; congr 1; omega
    rw [hdd, ← Nat.mul_assoc]
    exact Nat.mul_le_mul_right _ (Nat.div_mul_le_self _ _)
theorem int_bd {k i : Nat} (h : Bd k (149 + i)) (hi : i ≤ 40) : toIntP k ≤ ((two i : Nat) : Int) := by
  have hc := Nat.le_trans (cutA_amt (a := k)) h.2
  rw [two_add, Nat.mul_comm] at hc
  have hc' := Nat.le_of_mul_le_mul_left hc (two_pos 149)
  have hlt : absP k < 1593835520 := by
    rcases Nat.lt_or_ge (absP k) 1593835520 with h' | h'
    · exact h'
    · have h1 := Nat.le_trans (amt_mono h') h.2
      have e : amt 1593835520 = two 212 := amt_pow (k := 212) (by decide)
      rw [e] at h1
      have h2 : two (149 + i + 1) ≤ two 212 := two_le (by omega)
      rw [two_succ] at h2
      have := two_pos (149 + i)
      omega
  unfold toIntP
  rw [if_neg (by rw [h.ok.nan]; decide), if_neg (by omega)]
  split <;> omega
theorem bd_const {c k : Nat} (h1 : c < 4294967296) (h2 : c % 2147483648 ≤ (k - 22) * 8388608) (h3 : 23 ≤ k) (h4 : k ≤ 276) : Bd c k := by
  refine ⟨⟨h1, ?_⟩, ?_⟩
  · unfold absP; omega
  · rw [← amt_pow h3]; exact amt_mono h2
/-- rows of constants that are not above 1 -/
theorem bd_exp {x i : Nat} (h : Bd x i) (h1 : 150 ≤ i) (h2 : i ≤ 156) : ∃ p n, expM x = scaleP p n ∧ Bd p (6 * i - 715) ∧ (n ≤ ((two (i - 147) : Nat) : Int)) := by
  have k := bd_even (bd_mul (l := i + 1) h (bd_const (c := 1069066811) (k := 150) (by decide) (by decide) (by decide) (by decide)) (by omega) (by omega)) (by omega) (by omega)
  have c1 : Bd 3207692288 149 := bd_const (by decide) (by decide) (by decide) (by decide)
  have c2 : Bd 962494595 149 := bd_const (by decide) (by decide) (by decide) (by decide)
  have r1 := bd_fma (l := i + 3) k c1 h (by omega) (by omega) (by omega)
  have r2 := bd_fma (l := i + 4) k c2 r1 (by omega) (by omega) (by omega)
  have p0 : Bd 985008993 149 := bd_const (by decide) (by decide) (by decide) (by decide)
  have p1 := bd_fma (l := i + 5) r2 p0 (bd_const (c := 1007192201) (k := 149) (by decide) (by decide) (by decide) (by decide)) (by omega) (by omega) (by omega)
  have p2 := bd_fma (l := 2 * i - 139) r2 p1 (bd_const (c := 1026206379) (k := 149) (by decide) (by decide) (by decide) (by decide)) (by omega) (by omega) (by omega)
  have p3 := bd_fma (l := 3 * i - 283) r2 p2 (bd_const (c := 1042983595) (k := 149) (by decide) (by decide) (by decide) (by decide)) (by omega) (by omega) (by omega)
  have p4 := bd_fma (l := 4 * i - 427) r2 p3 (bd_const (c := 1056964608) (k := 149) (by decide) (by decide) (by decide) (by decide)) (by omega) (by omega) (by omega)
  have p5 := bd_fma (l := 5 * i - 571) r2 p4 (bd_const (c := 1065353216) (k := 149) (by decide) (by decide) (by decide) (by decide)) (by omega) (by omega) (by omega)
  have p6 := bd_fma (l := 6 * i - 715) r2 p5 (bd_const (c := 1065353216) (k := 149) (by decide) (by decide) (by decide) (by decide)) (by omega) (by omega) (by omega)
  refine ⟨_, _, rfl, p6, ?_⟩
  refine int_bd (i := i - 147) (k.mono (by omega)) (by omega)
theorem less_iff {a b : Nat} (ha : Ok a) (hb : Ok b) : lessP a b = decide (placeP a < placeP b) := by
  unfold lessP
  rw [ha.nan, hb.nan]
  rfl
theorem exp_ok {x : Nat} (h : Ok x) : Ok (expP x) := by
  unfold expP
  rw [if_neg (by rw [h.nan]; decide)]
  split
  · exact ⟨by decide, by decide⟩
  · rename_i h1
    split
    · exact ⟨by decide, by decide⟩
    · rename_i h2
      have o1 : Ok 1118925335 := ⟨by decide, by decide⟩
      have o2 : Ok 3268411392 := ⟨by decide, by decide⟩
      rw [less_iff o1 h, decide_eq_true_iff, show placeP 1118925335 = 1118925335 from by decide] at h1
      rw [less_iff h o2, decide_eq_true_iff, show placeP 3268411392 = -1120927744 from by decide] at h2
      have hb : Bd x 156 := by
        refine bd_const h.1 ?_ (by decide) (by decide)
        have := h.2
        unfold placeP at h1 h2
        split at h1 <;> split at h2 <;> omega
      obtain ⟨p, n, e, hp, -⟩ := bd_exp hb (by decide) (by decide)
      rw [e]
      exact ok_scale _ hp.ok
theorem exp_bd {x : Nat} (h : Bd x 153) : Bd (expP x) 267 := by
  have hx := h.2
  have hab : absP x ≤ 131 * 8388608 := by
    rcases Nat.lt_or_ge (131 * 8388608) (absP x) with h' | h'
    · have h1 := amt_smono h'
      have e : amt (131 * 8388608) = two 153 := amt_pow (k := 153) (by decide)
      omega
    · exact h'
  unfold absP at hab
  have o1 : Ok 1118925335 := ⟨by decide, by decide⟩
  have o2 : Ok 3268411392 := ⟨by decide, by decide⟩
  unfold expP
  rw [if_neg (by rw [h.ok.nan]; decide), less_iff o1 h.ok, if_neg, less_iff h.ok o2, if_neg]
  · obtain ⟨p, n, e, hp, hn⟩ := bd_exp h (by decide) (by decide)
    rw [e]
    exact bd_scale (N := 64) hp hn (by decide) (by decide) (by decide)
  · rw [decide_eq_true_iff, show placeP 3268411392 = -1120927744 from by decide]
    unfold placeP
    split <;> omega
  · rw [decide_eq_true_iff, show placeP 1118925335 = 1118925335 from by decide]
    unfold placeP
    split <;> omega
end Go.Proofs.Ytegeadkilolngaa
