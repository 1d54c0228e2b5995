/- Plain: the sum of the code, taken apart and shifted, is the exact sum, rounded. -/
import Derived.Test.YtanccobllehnaaaRdS
namespace Go.Proofs.Ytanccobllehnaaa

/-- a number of two words, and less than one part more, rounded -/
theorem roundW_rnd {way : Int} {neg : Bool} {E : Int} {v p q : Nat} {lost : Bool} (hv : v < 340282366920938463463374607431768211456) (hv0 : 0 < v) (hq : 0 < q)
    (hm : lost = false → v * (two (E + 149).toNat * q) = p * two (-(E + 149)).toNat)
    (hl : lost = true → 16777216 ≤ v ∧ v * (two (E + 149).toNat * q) < p * two (-(E + 149)).toNat ∧ p * two (-(E + 149)).toNat < (v + 1) * (two (E + 149).toNat * q)) :
    roundWP way neg E v lost = rnd way neg p q := by
  unfold roundWP
  by_cases h0 : hiW v = 0
  · rw [if_pos h0]
    have h64 : v < 18446744073709551616 := by unfold hiW at h0; omega
    refine round_rnd hv0 h64 hq ?_
    unfold RV
    dsimp only
    cases lost
    · simp only [Bool.false_eq_true, if_false]; exact hm rfl
    · simp only [if_true]
      obtain ⟨h1, h2, h3⟩ := hl rfl
      exact ⟨h2, h3, .inl h1⟩
  · rw [if_neg h0]
    have hh1 : 0 < hiW v := by omega
    have hh64 : hiW v < 18446744073709551616 := by unfold hiW; omega
    have hk64 := blen_64 hh64
    have hb1 := blen_le hh1
    have hb2 := blen_lt (hiW v)
    have hb3 := blen_pos hh1
    have hdm := Nat.div_add_mod v (two (blen (hiW v)))
    have hml := Nat.mod_lt v (two_pos (blen (hiW v)))
    have hvh : v = hiW v * 18446744073709551616 + loW v := by unfold hiW loW; omega
    have hlo : loW v < 18446744073709551616 := by unfold loW; omega
    obtain ⟨k, hk⟩ : ∃ k, blen (hiW v) = k := ⟨_, rfl⟩
    rw [hk] at hk64 hb1 hb2 hb3 hdm hml ⊢
    obtain ⟨Q, hQ⟩ : ∃ Q, v / two k = Q := ⟨_, rfl⟩
    obtain ⟨R, hR⟩ : ∃ R, v % two k = R := ⟨_, rfl⟩
    have hk0 := two_pos k
    have hQ1 : 9223372036854775808 ≤ Q := by
      rw [← hQ, Nat.le_div_iff_mul_le hk0]
      have e1 : two k = 2 * two (k - 1) := by rw [← two_succ]; congr 1; omega
      rw [e1]
      have h3 : two (k - 1) * 18446744073709551616 ≤ hiW v * 18446744073709551616 := Nat.mul_le_mul_right _ hb1
      omega
    have hQ2 : Q < 18446744073709551616 := by
      rw [← hQ, Nat.div_lt_iff_lt_mul hk0]
      have h3 : (hiW v + 1) * 18446744073709551616 ≤ two k * 18446744073709551616 := Nat.mul_le_mul_right _ hb2
      omega
    rw [hQ, hR] at hdm ⊢
    rw [hR] at hml
    clear hQ hR hvh hlo hh1 hh64 hb1 hb2 hv h0 hk
    refine round_rnd (by omega) hQ2 hq ?_
    -- both sides: once more by powers of two
    have hX : two (E + (k : Int) + 149).toNat * two (-(E + 149)).toNat = two k * two (E + 149).toNat * two (-(E + (k : Int) + 149)).toNat := by
      rw [← two_add, ← two_add, ← two_add]
      congr 1
      omega
    unfold RV
    dsimp only
    have hm1 := two_pos (-(E + 149)).toNat
    have hm2 := two_pos (-(E + (k : Int) + 149)).toNat
    have hA0 : 0 < two (E + 149).toNat * q := Nat.mul_pos (two_pos _) hq
    have hA : two (E + (k : Int) + 149).toNat * q * two (-(E + 149)).toNat = two k * (two (E + 149).toNat * q) * two (-(E + (k : Int) + 149)).toNat := by
      rw [Nat.mul_right_comm, hX]
      generalize two k = x; generalize two (E + 149).toNat = y; generalize two (-(E + (k : Int) + 149)).toNat = z
      rw [Nat.mul_right_comm, Nat.mul_assoc x]
    have hP : p * two (-(E + (k : Int) + 149)).toNat * two (-(E + 149)).toNat = p * two (-(E + 149)).toNat * two (-(E + (k : Int) + 149)).toNat := Nat.mul_right_comm _ _ _
    clear hX
    generalize two (-(E + 149)).toNat = m1 at *
    generalize two (-(E + (k : Int) + 149)).toNat = m2 at *
    generalize two (E + 149).toNat * q = A at *
    generalize two (E + (k : Int) + 149).toNat * q = A' at *
    generalize hPP : p * m1 = P at *
    generalize p * m2 = P' at *
    have e1 : Q * A' * m1 = Q * two k * A * m2 := by rw [Nat.mul_assoc, hA, ← Nat.mul_assoc, ← Nat.mul_assoc]
    have e2 : (Q + 1) * A' * m1 = (Q + 1) * two k * A * m2 := by rw [Nat.mul_assoc, hA, ← Nat.mul_assoc, ← Nat.mul_assoc]
    have e3 : v * A = Q * two k * A + R * A := by rw [← hdm, Nat.add_mul, Nat.mul_comm (two k)]
    have e4 : (Q + 1) * two k * A = Q * two k * A + two k * A := by rw [Nat.add_mul Q, Nat.one_mul, Nat.add_mul]
    have e5 : (v + 1) * A = Q * two k * A + R * A + A := by rw [Nat.add_mul, Nat.one_mul, e3]
    have l1 : R * A + A ≤ two k * A := by
      have := Nat.mul_le_mul_right A (show R + 1 ≤ two k from hml)
      rw [Nat.add_mul, Nat.one_mul] at this
      exact this
    have l2 : R ≠ 0 → 0 < R * A := fun h => Nat.mul_pos (by omega) hA0
    have l3 : R = 0 → R * A = 0 := fun h => by rw [h, Nat.zero_mul]
    by_cases hmore : lost = true ∨ R ≠ 0
    · have hb : (lost || decide (R ≠ 0)) = true := by
        rcases hmore with h | h
        · rw [h]; rfl
        · rw [decide_eq_true h, Bool.or_true]
      rw [hb]
      simp only [if_true]
      have key : Q * two k * A < P ∧ P < (Q + 1) * two k * A := by
        rw [e4]
        cases lost
        · have h1 := hm rfl
          have hr : R ≠ 0 := by
            rcases hmore with h | h
            · cases h
            · exact h
          have := l2 hr
          rw [e3] at h1
          omega
        · obtain ⟨h1, h2, h3⟩ := hl rfl
          rw [e3] at h2
          rw [e5] at h3
          omega
      refine ⟨?_, ?_, .inl (by omega)⟩
      · refine Nat.lt_of_mul_lt_mul_right (a := m1) ?_
        rw [e1, hP]
        exact Nat.mul_lt_mul_of_pos_right key.1 hm2
      · refine Nat.lt_of_mul_lt_mul_right (a := m1) ?_
        rw [e2, hP]
        exact Nat.mul_lt_mul_of_pos_right key.2 hm2
    · have h1 : lost = false := by cases lost <;> simp at hmore ⊢
      have h2 : R = 0 := by
        by_cases h : R = 0
        · exact h
        · exact absurd (.inr h) hmore
      have hb : (lost || decide (R ≠ 0)) = false := by rw [h1, h2]; rfl
      rw [hb]
      simp only [Bool.false_eq_true, if_false]
      refine Nat.eq_of_mul_eq_mul_right hm1 ?_
      have h3 := hm h1
      rw [e3, l3 h2, Nat.add_zero] at h3
      rw [e1, hP, h3]
/-- the sum of two, by what they are worth in units of 2^-298 -/
def sumW (way : Int) (xn yn : Bool) (X Y : Nat) : Nat :=
  if xn = yn then rnd way xn (X + Y) (two 149) else if X = Y then sgn (way == 2) else if Y < X then rnd way xn (X - Y) (two 149) else rnd way yn (Y - X) (two 149)
theorem sumW_comm {way : Int} {xn yn : Bool} {X Y : Nat} : sumW way xn yn X Y = sumW way yn xn Y X := by
  unfold sumW
  by_cases h : xn = yn
  · rw [if_pos h, if_pos h.symm, h, Nat.add_comm]
  · rw [if_neg h, if_neg (show ¬ yn = xn from fun e => h e.symm)]
    by_cases e : X = Y
    · rw [if_pos e, if_pos e.symm]
    · rw [if_neg e, if_neg (show ¬ Y = X from fun h => e h.symm)]
      by_cases l : Y < X
      · rw [if_pos l, if_neg (by omega)]
      · rw [if_neg l, if_pos (by omega)]
theorem sumC_law {way : Int} {pn cn : Bool} {pe ce : Int} {ps cs i j : Nat} (hps : 0 < ps) (hcs : 0 < cs) (hps64 : ps < 18446744073709551616) (hcs64 : cs < 18446744073709551616) (hi : pe + 298 = (i : Int)) (hj : ce + 298 = (j : Int)) (htop : ce + (blen cs : Int) ≤ pe + (blen ps : Int)) :
    sumC way pn pe ps cn ce cs = sumW way pn cn (ps * two i) (cs * two j) := by
  have hlp := blen_64 hps64
  have hlp1 := blen_pos hps
  have hlow := blen_le hps
  unfold sumC
  dsimp only
  obtain ⟨lp, elp⟩ : ∃ l, blen ps = l := ⟨_, rfl⟩
  have hat := mv_top (s := ps) (k := 126 - (lp : Int)) hps (by rw [elp]; exact Int.le_refl _) hps64
  obtain ⟨E, hE⟩ : ∃ E, pe + (blen ps : Int) - 126 = E := ⟨_, rfl⟩
  have hbt := mv_top (s := cs) (k := ce - E) hcs (by omega) hcs64
  rw [hE]
  rw [elp] at hE hlp hlp1 hlow
  rw [show pe - E = 126 - (lp : Int) from by omega]
  have hQ : 0 < two 149 := two_pos _
  obtain ⟨A, hA⟩ : ∃ A, two (E + 149).toNat * two 149 = A := ⟨_, rfl⟩
  obtain ⟨m, hm⟩ : ∃ m, two (-(E + 149)).toNat = m := ⟨_, rfl⟩
  have hm0 : 0 < m := by rw [← hm]; exact two_pos _
  have hA0 : 0 < A := by rw [← hA]; exact Nat.mul_pos (two_pos _) (two_pos _)
  -- the greater one
  have ha : mvV ps (126 - (lp : Int)) * A = ps * two i * m := by
    unfold mvV
    rw [if_pos (by omega), ← hA, ← hm, Nat.mul_assoc, Nat.mul_assoc, ← two_add, ← two_add, ← two_add]
    congr 2
    omega
  have hab : 42535295865117307932921825928971026432 ≤ mvV ps (126 - (lp : Int)) := by
    have h7 : two 125 = 42535295865117307932921825928971026432 := rfl
    unfold mvV
    rw [if_pos (by omega), ← h7]
    have h5 : two (lp - 1) * two (126 - (lp : Int)).toNat ≤ ps * two (126 - (lp : Int)).toNat := Nat.mul_le_mul_right _ hlow
    rw [← two_add, show lp - 1 + (126 - (lp : Int)).toNat = 125 from by omega] at h5
    exact h5
  -- the lesser one
  have hb : mvV cs (ce - E) * A ≤ cs * two j * m ∧ cs * two j * m < (mvV cs (ce - E) + 1) * A ∧ (mvL cs (ce - E) = true ↔ mvV cs (ce - E) * A ≠ cs * two j * m) ∧ (mvL cs (ce - E) = true → mvV cs (ce - E) < 18446744073709551616) := by
    unfold mvV mvL
    by_cases hk : 0 ≤ ce - E
    · rw [if_pos hk, if_pos hk]
      have e : cs * two (ce - E).toNat * A = cs * two j * m := by
        rw [← hA, ← hm, Nat.mul_assoc, Nat.mul_assoc, ← two_add, ← two_add, ← two_add]
        congr 2
        omega
      refine ⟨by omega, ?_, ?_, ?_⟩
      · rw [Nat.add_mul, Nat.one_mul]; omega
      · rw [e]; simp
      · intro h; cases h
    · rw [if_neg hk, if_neg hk]
      obtain ⟨d, hd⟩ : ∃ d : Nat, (-(ce - E)).toNat = d := ⟨_, rfl⟩
      obtain ⟨t, ht⟩ : ∃ t : Nat, (E + 149).toNat + 149 = d + t := ⟨(E + 149).toNat + 149 - d, by omega⟩
      have hAt : A = two d * two t := by rw [← hA, ← two_add, ← two_add, ht]
      have hjt : two j * m = two t := by
        rw [← hm, ← two_add]
        congr 1
        omega
      rw [hd]
      have hdm := Nat.div_add_mod cs (two d)
      have hml := Nat.mod_lt cs (two_pos d)
      have hT := two_pos t
      have hle := Nat.div_le_self cs (two d)
      have e1 : cs * two j * m = cs / two d * A + cs % two d * two t := by
        rw [Nat.mul_assoc, hjt]
        conv => lhs; rw [← hdm]
        rw [Nat.add_mul, Nat.mul_comm (two d), Nat.mul_assoc, hAt]
      have e2 : cs % two d * two t < A := by rw [hAt]; exact Nat.mul_lt_mul_of_pos_right hml hT
      have e3 : cs % two d ≠ 0 → 0 < cs % two d * two t := fun h => Nat.mul_pos (by omega) hT
      have e4 : cs % two d = 0 → cs % two d * two t = 0 := fun h => by rw [h, Nat.zero_mul]
      rw [e1]
      refine ⟨by omega, ?_, ?_, fun _ => by omega⟩
      · rw [Nat.add_mul, Nat.one_mul]; omega
      · rw [decide_eq_true_eq]
        constructor
        · intro h; have := e3 h; omega
        · intro h h'; have := e4 h'; omega
  obtain ⟨b1, b2, b3, b4⟩ := hb
  generalize mvV ps (126 - (lp : Int)) = a at *
  generalize mvV cs (ce - E) = b at *
  generalize mvL cs (ce - E) = lost at *
  generalize ps * two i = X at *
  generalize cs * two j = Y at *
  rw [Nat.add_mul, Nat.one_mul] at b2
  have hXY : (X + Y) * m = a * A + Y * m := by rw [Nat.add_mul, ha]
  unfold sumW
  by_cases hn : pn = cn
  · rw [if_pos hn, if_pos hn]
    refine roundW_rnd (by omega) (by omega) hQ ?_ ?_
    · intro h
      have h1 : b * A = Y * m := by
        by_cases e : b * A = Y * m
        · exact e
        · rw [b3.2 e] at h; cases h
      rw [hA, hm, hXY, Nat.add_mul, h1]
    · intro h
      have h1 := b3.1 h
      rw [hA, hm, hXY, Nat.add_mul a b A, Nat.add_mul (a + b), Nat.one_mul, Nat.add_mul a b A]
      exact ⟨by omega, by omega, by omega⟩
  · rw [if_neg hn, if_neg hn]
    cases lost
    · have h1 : b * A = Y * m := by
        by_cases e : b * A = Y * m
        · exact e
        · have := b3.2 e; cases this
      rw [if_neg (by decide)]
      by_cases he : a = b
      · have hxy : X = Y := by
          rw [he, h1] at ha
          exact (Nat.eq_of_mul_eq_mul_right hm0 ha).symm
        rw [if_pos he, if_pos hxy]
      · have hxy : X ≠ Y := fun e => by
          rw [e, ← h1] at ha
          exact he (Nat.eq_of_mul_eq_mul_right hA0 ha)
        rw [if_neg he, if_neg hxy]
        by_cases hl : a < b
        · have h2 : X < Y := Nat.lt_of_mul_lt_mul_right (a := m) (by rw [← ha, ← h1]; exact Nat.mul_lt_mul_of_pos_right hl hA0)
          rw [if_pos hl, if_neg (by omega)]
          refine roundW_rnd (by omega) (by omega) hQ ?_ ?_
          · intro _
            rw [hA, hm, Nat.mul_sub_right_distrib, Nat.mul_sub_right_distrib, ha, h1]
          · intro h; cases h
        · have h2 : Y < X := Nat.lt_of_mul_lt_mul_right (a := m) (by rw [← ha, ← h1]; exact Nat.mul_lt_mul_of_pos_right (by omega) hA0)
          rw [if_neg hl, if_pos h2]
          refine roundW_rnd (by omega) (by omega) hQ ?_ ?_
          · intro _
            rw [hA, hm, Nat.mul_sub_right_distrib, Nat.mul_sub_right_distrib, ha, h1]
          · intro h; cases h
    · have h1 := b3.1 rfl
      have hb64 := b4 rfl
      have h3 : (b + 1) * A ≤ a * A := Nat.mul_le_mul_right _ (by omega)
      rw [Nat.add_mul, Nat.one_mul] at h3
      have h2 : Y < X := Nat.lt_of_mul_lt_mul_right (a := m) (by rw [← ha]; omega)
      rw [if_pos rfl, if_neg (by omega), if_pos h2]
      refine roundW_rnd (by omega) (by omega) hQ ?_ ?_
      · intro h; cases h
      · intro _
        have e1 : (a - b - 1) * A = a * A - b * A - A := by rw [Nat.mul_sub_right_distrib, Nat.mul_sub_right_distrib, Nat.one_mul]
        have e2 : (a - b - 1 + 1) * A = a * A - b * A := by rw [show a - b - 1 + 1 = a - b from by omega, Nat.mul_sub_right_distrib]
        rw [hA, hm, e1, e2, Nat.mul_sub_right_distrib X Y m, ← ha]
        exact ⟨by omega, by omega, by omega⟩
theorem sumF_law {way : Int} {pn cn : Bool} {pe ce : Int} {ps cs i j : Nat} (hps : 0 < ps) (hcs : 0 < cs) (hps64 : ps < 18446744073709551616) (hcs64 : cs < 18446744073709551616) (hi : pe + 298 = (i : Int)) (hj : ce + 298 = (j : Int)) :
    sumF way pn pe ps cn ce cs = sumW way pn cn (ps * two i) (cs * two j) := by
  unfold sumF
  by_cases h : pe + (blen ps : Int) < ce + (blen cs : Int)
  · rw [if_pos h, sumC_law hcs hps hcs64 hps64 hj hi (by omega), sumW_comm]
  · rw [if_neg h, sumC_law hps hcs hps64 hcs64 hi hj (by omega)]
end Go.Proofs.Ytanccobllehnaaa
