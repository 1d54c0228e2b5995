/- Plain: what the statements of layer 2 say without the document's answer: fused ones, whole ones, roots and squares. -/
import Derived.Test.YtegeadkilolngaaMRg
import Derived.Test.YtegeadkilolngaaMNat
namespace Go.Proofs.Ytegeadkilolngaa

theorem bool_f {b : Bool} (h : ¬ b = true) : b = false := by
  cases b
  · rfl
  · exact absurd rfl h
theorem rnd_exact {way : Int} {neg : Bool} {p q k : Nat} (hk : k < 2139095040) (hq : 0 < q) (h : amt k * q = p) : rnd way neg p q = sgn neg + k := by
  have hc : IsCut p q k := ⟨by omega, by omega, fun _ => by rw [← h]; exact Nat.mul_lt_mul_of_pos_right (amt_lt _) hq⟩
  unfold rnd
  rw [hc.eq]
  unfold rndM
  rw [if_neg (by omega), if_pos (.inl h)]
theorem rnd_scale {way : Int} {neg : Bool} {p q T : Nat} (hT : 0 < T) : rnd way neg (p * T) (q * T) = rnd way neg p q := by
  have hi := cut_is p q
  obtain ⟨m, hm⟩ : ∃ m, cut p q = m := ⟨_, rfl⟩
  rw [hm] at hi
  have hc : IsCut (p * T) (q * T) m := by
    obtain ⟨h1, h2, h3⟩ := hi
    refine ⟨h1, ?_, fun h => ?_⟩
    · rw [← Nat.mul_assoc]; exact Nat.mul_le_mul_right _ h2
    · rw [← Nat.mul_assoc]; exact Nat.mul_lt_mul_of_pos_right (h3 h) hT
  unfold rnd
  rw [hc.eq, hm]
  have e1 : amt m * (q * T) = p * T ↔ amt m * q = p := by
    rw [← Nat.mul_assoc]
    exact ⟨fun h => Nat.eq_of_mul_eq_mul_right hT h, fun h => by rw [h]⟩
  have e2 : (amt m + amt (m + 1)) * (q * T) < 2 * (p * T) ↔ (amt m + amt (m + 1)) * q < 2 * p := by
    rw [← Nat.mul_assoc, ← Nat.mul_assoc]
    exact ⟨fun h => Nat.lt_of_mul_lt_mul_right h, fun h => Nat.mul_lt_mul_of_pos_right h hT⟩
  have e3 : (amt m + amt (m + 1)) * (q * T) = 2 * (p * T) ↔ (amt m + amt (m + 1)) * q = 2 * p := by
    rw [← Nat.mul_assoc, ← Nat.mul_assoc]
    exact ⟨fun h => Nat.eq_of_mul_eq_mul_right hT h, fun h => by rw [h]⟩
  unfold rndM
  simp only [e1, e2, e3]
theorem nan_one : nanP 1065353216 = false := by kernel_rfl
theorem inf_one : infP 1065353216 = false := by kernel_rfl
theorem abs_one : absP 1065353216 = 1065353216 := by kernel_rfl
theorem amt_one : amt 1065353216 = two 149 := by kernel_rfl
theorem sgnX_one (a : Nat) : sgnX a 1065353216 = oN a := by
  unfold sgnX oN
  cases decide (2147483648 ≤ a) <;> rfl
theorem inf_form {a : Nat} (h : a < 4294967296) (hi : infP a = true) : a = sgn (oN a) + 2139095040 := by
  have := inf_abs.1 hi
  unfold absP at this
  unfold oN
  by_cases hs : 2147483648 ≤ a
  · rw [decide_eq_true hs]; show a = 2147483648 + 2139095040; omega
  · rw [decide_eq_false hs]; show a = 0 + 2139095040; omega
theorem zero_form {a : Nat} (h : a < 4294967296) (hi : absP a = 0) : a = sgn (oN a) := by
  unfold absP at hi
  unfold oN
  by_cases hs : 2147483648 ≤ a
  · rw [decide_eq_true hs]; show a = 2147483648; omega
  · rw [decide_eq_false hs]; show a = 0; omega
theorem nan_sum (neg : Bool) {k : Nat} (h : k ≤ 2139095040) : nanP (sgn neg + k) = false := by
  unfold nanP
  rw [decide_eq_false]
  cases neg
  · show ¬ 2139095040 < (0 + k) % 2147483648; omega
  · show ¬ 2139095040 < (2147483648 + k) % 2147483648; omega
theorem mul_nan_iff {a b : Nat} (hna : nanP a = false) (hnb : nanP b = false) : nanP (mulP 0 a b) = true ↔ (infP a = true ∧ absP b = 0) ∨ (infP b = true ∧ absP a = 0) := by
  constructor
  · intro h
    by_cases c1 : infP a = true ∧ absP b = 0
    · exact .inl c1
    by_cases c2 : infP b = true ∧ absP a = 0
    · exact .inr c2
    exfalso
    by_cases ci : infP a = true ∨ infP b = true
    · have : mulP 0 a b = sgn (sgnX a b) + 2139095040 := by
        refine mul_inf 0 hna hnb ?_
        rcases ci with ci | ci
        · exact .inl ⟨ci, fun e => c1 ⟨ci, e⟩⟩
        · exact .inr ⟨ci, fun e => c2 ⟨ci, e⟩⟩
      rw [this, nan_sum _ (Nat.le_refl _)] at h
      cases h
    · have ha : infP a = false := bool_f fun h => ci (.inl h)
      have hb : infP b = false := bool_f fun h => ci (.inr h)
      obtain ⟨k, e1, e2, -⟩ := place_rnd 0 (sgnX a b) (amt (absP a) * amt (absP b)) (two 149)
      rw [mul_fin 0 hna hnb ha hb, e1, nan_sum _ e2] at h
      cases h
  · intro h
    have : mulP 0 a b = 2143289344 := by
      refine mul_none 0 ?_
      rcases h with ⟨h1, h2⟩ | ⟨h1, h2⟩
      · exact .inl ⟨h1, hnb, h2⟩
      · exact .inr ⟨h1, hna, h2⟩
    rw [this]
    rfl
/-- a product with 1 is the sum -/
theorem fma_add (way : Int) {a c : Nat} (h1 : a < 4294967296) (h3 : c < 4294967296) : fmaP way a 1065353216 c = addP way a c := by
  by_cases hn : nanP a = true ∨ nanP c = true
  · have e2 : addP way a c = 2143289344 := add_none way h1 h3 (hn.elim .inl fun h => .inr (.inl h))
    rw [e2]
    unfold fmaP
    rw [if_pos]
    rcases hn with h | h
    · exact .inl h
    · exact .inr (.inr (.inl h))
  have hna : nanP a = false := bool_f fun h => hn (.inl h)
  have hnc : nanP c = false := bool_f fun h => hn (.inr h)
  have hno : ¬ (nanP a = true ∨ nanP 1065353216 = true ∨ nanP c = true ∨ nanP (mulP 0 a 1065353216) = true) := by
    rw [mul_nan_iff hna nan_one, hna, nan_one, hnc, inf_one, abs_one]
    simp
  unfold fmaP
  rw [if_neg hno, inf_one, sgnX_one]
  cases hia : infP a
  · rw [if_neg (show ¬ (false = true ∨ false = true) by simp)]
    cases hic : infP c
    · rw [if_neg (by decide)]
      have la := fin_abs hna hia
      have lc := fin_abs hnc hic
      have hf := fma_law way (a := a) (b := 1065353216) h3 la (by rw [abs_one]; decide) lc
      rw [sgnX_one, abs_one, amt_one] at hf
      rw [hf, add_law way hna hia hnc hic]
      show _ = if absP a = 0 ∧ absP c = 0 then _ else sumL way (oN a) (oN c) _ _
      have hT := two_pos 149
      by_cases hz : absP a = 0 ∧ absP c = 0
      · have e1 : amt (absP a) * two 149 = 0 ∧ two 149 * amt (absP c) = 0 := by rw [hz.1, hz.2, amt_zero]; exact ⟨Nat.zero_mul _, Nat.mul_zero _⟩
        rw [if_pos e1, if_pos hz]
        have fa := zero_form h1 hz.1
        have fc := zero_form h3 hz.2
        by_cases hs : oN c = oN a
        · have hac : a = c := by rw [fa, fc, hs]
          rw [if_pos hs, if_pos hac, hac]
        · have hac : ¬ a = c := fun e => hs (by rw [e])
          rw [if_neg hs, if_neg hac]
      · have e1 : ¬ (amt (absP a) * two 149 = 0 ∧ two 149 * amt (absP c) = 0) := by
          rintro ⟨h, h'⟩
          apply hz
          constructor
          · rcases Nat.mul_eq_zero.1 h with h | h
            · exact amt_nil.1 h
            · omega
          · rcases Nat.mul_eq_zero.1 h' with h | h
            · omega
            · exact amt_nil.1 h
        rw [if_neg e1, if_neg hz]
        generalize amt (absP a) = x at *
        generalize amt (absP c) = z at *
        unfold sumW sumL
        rw [Nat.mul_comm (two 149) z]
        have r : ∀ n p, rnd way n (p * two 149) (two 149) = rnd way n p 1 := fun n p => by
          have := rnd_scale (way := way) (neg := n) (p := p) (q := 1) hT
          rw [Nat.one_mul] at this
          exact this
        by_cases hs : oN a = oN c
        · rw [if_pos hs, if_pos hs, ← Nat.add_mul, r]
        · rw [if_neg hs, if_neg hs]
          by_cases he : x = z
          · rw [if_pos he, if_pos (by rw [he])]
          · have hne : ¬ x * two 149 = z * two 149 := fun e => he (Nat.eq_of_mul_eq_mul_right hT e)
            rw [if_neg he, if_neg hne]
            by_cases hl : z < x
            · rw [if_pos hl, if_pos (Nat.mul_lt_mul_of_pos_right hl hT), ← Nat.mul_sub_right_distrib, r]
            · have hnl : ¬ z * two 149 < x * two 149 := fun h => hl (Nat.lt_of_mul_lt_mul_right h)
              rw [if_neg hl, if_neg hnl, ← Nat.mul_sub_right_distrib, r]
    · rw [if_pos rfl, add_inf way hna hnc (.inr ⟨hia, hic⟩), hia]
      rfl
  · rw [if_pos (show true = true ∨ false = true from .inl rfl)]
    have fa := inf_form h1 hia
    rw [← fa]
    by_cases hcc : infP c = true ∧ c ≠ a
    · rw [if_pos hcc, add_none way h1 h3 (.inr (.inr ⟨hia, hcc.1, fun e => hcc.2 e.symm⟩))]
    · rw [if_neg hcc, add_inf way hna hnc (.inl ⟨hia, ?_⟩), hia]
      · rfl
      · by_cases hic : infP c = true
        · by_cases e : a = c
          · exact .inr e
          · exact absurd ⟨hic, fun h => e h.symm⟩ hcc
        · left
          cases h : infP c
          · rfl
          · exact absurd h hic
/-- a sum with the product's nought is the product -/
theorem fma_mul (way : Int) (a b : Nat) : fmaP way a b (sgn (sgnX a b)) = mulP way a b := by
  have hc3 : sgn (sgnX a b) < 4294967296 := by cases sgnX a b <;> decide
  have hcn : nanP (sgn (sgnX a b)) = false := by cases sgnX a b <;> kernel_rfl
  have hci : infP (sgn (sgnX a b)) = false := by cases sgnX a b <;> kernel_rfl
  have hca : absP (sgn (sgnX a b)) = 0 := by cases sgnX a b <;> kernel_rfl
  have hco : oN (sgn (sgnX a b)) = sgnX a b := by cases sgnX a b <;> kernel_rfl
  by_cases hn : nanP a = true ∨ nanP b = true
  · rw [mul_nan way hn]
    unfold fmaP
    rw [if_pos]
    rcases hn with h | h
    · exact .inl h
    · exact .inr (.inl h)
  have hna : nanP a = false := bool_f fun h => hn (.inl h)
  have hnb : nanP b = false := bool_f fun h => hn (.inr h)
  by_cases hm : nanP (mulP 0 a b) = true
  · have hcl := (mul_nan_iff hna hnb).1 hm
    rw [mul_none way (hcl.elim (fun h => .inl ⟨h.1, hnb, h.2⟩) fun h => .inr ⟨h.1, hna, h.2⟩)]
    unfold fmaP
    rw [if_pos (.inr (.inr (.inr hm)))]
  have hcl : ¬ ((infP a = true ∧ absP b = 0) ∨ (infP b = true ∧ absP a = 0)) := fun h => hm ((mul_nan_iff hna hnb).2 h)
  unfold fmaP
  rw [if_neg (by rw [hna, hnb, hcn]; simp only [Bool.false_eq_true, false_or]; exact hm)]
  by_cases hi : infP a = true ∨ infP b = true
  · rw [if_pos hi, if_neg (by rw [hci]; simp)]
    refine (mul_inf way hna hnb ?_).symm
    rcases hi with h | h
    · exact .inl ⟨h, fun e => hcl (.inl ⟨h, e⟩)⟩
    · exact .inr ⟨h, fun e => hcl (.inr ⟨h, e⟩)⟩
  · have hia : infP a = false := bool_f fun h => hi (.inl h)
    have hib : infP b = false := bool_f fun h => hi (.inr h)
    rw [if_neg hi, if_neg (by rw [hci]; decide), mul_fin way hna hnb hia hib]
    have hf := fma_law way (a := a) (b := b) hc3 (fin_abs hna hia) (fin_abs hnb hib) (by rw [hca]; decide)
    rw [hf, hca, amt_zero, Nat.mul_zero, hco]
    by_cases hx : amt (absP a) * amt (absP b) = 0
    · rw [if_pos ⟨hx, rfl⟩, if_pos rfl, hx, rnd_zero way _ (two_pos _)]
    · rw [if_neg (fun h => hx h.1)]
      unfold sumW
      rw [if_pos rfl, Nat.add_zero]
theorem okR.rnd (way : Int) (neg : Bool) (p q : Nat) : okR (rnd way neg p q) := by
  obtain ⟨k, e1, e2, -⟩ := place_rnd way neg p q
  rw [e1]
  exact okR.sum neg e2
theorem okR.self {c : Nat} (h : c < 4294967296) (hn : nanP c = false) : okR c := ⟨h, .inr (by
  unfold nanP at hn
  have := of_decide_eq_false hn
  omega)⟩
theorem okR.fma (way : Int) {a b c : Nat} (h3 : c < 4294967296) : okR (fmaP way a b c) := by
  unfold fmaP
  split
  · exact okR.nan
  · rename_i hno
    have hna : nanP a = false := bool_f fun h => hno (.inl h)
    have hnb : nanP b = false := bool_f fun h => hno (.inr (.inl h))
    have hnc : nanP c = false := bool_f fun h => hno (.inr (.inr (.inl h)))
    split
    · split
      · exact okR.nan
      · exact okR.sum _ (Nat.le_refl _)
    · rename_i hi
      have hia : infP a = false := bool_f fun h => hi (.inl h)
      have hib : infP b = false := bool_f fun h => hi (.inr h)
      split
      · exact okR.self h3 hnc
      · rename_i hic
        have hic : infP c = false := bool_f fun h => hic h
        rw [fma_law way h3 (fin_abs hna hia) (fin_abs hnb hib) (fin_abs hnc hic)]
        split
        · split
          · exact okR.self h3 hnc
          · exact okR.sgn _
        · unfold sumW
          split
          · exact okR.rnd _ _ _ _
          · split
            · exact okR.sgn _
            · split
              · exact okR.rnd _ _ _ _
              · exact okR.rnd _ _ _ _
theorem okR.sqrt (way : Int) {a : Nat} (h : a < 4294967296) : okR (sqrtP way a) := by
  unfold sqrtP
  split
  · exact okR.nan
  · rename_i hno
    have hna : nanP a = false := bool_f fun h => hno h
    split
    · exact okR.self h hna
    · split
      · exact okR.nan
      · split
        · exact okR.self h hna
        · exact okR.round _ _ _ _ _
end Go.Proofs.Ytegeadkilolngaa
