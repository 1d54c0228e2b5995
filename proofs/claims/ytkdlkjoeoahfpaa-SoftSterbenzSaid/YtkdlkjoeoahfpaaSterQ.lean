/- Plain: what SoftSterbenz states, of AddBy's answers. -/
import Derived.Test.YtkdlkjoeoahfpaaSterP
import Derived.Test.YtkdlkjoeoahfpaaHoldP
namespace Go.Proofs.Ytkdlkjoeoahfpaa

theorem fin_parts {a : Nat} (hn : nanP a = false) (hi : infP a = false) : absP a < 2139095040 := by
  unfold nanP at hn
  unfold infP at hi
  have h1 := of_decide_eq_false hn
  have h2 := of_decide_eq_false hi
  unfold absP
  omega
theorem fin_of {a : Nat} (h : absP a < 2139095040) : nanP a = false ∧ infP a = false := by
  unfold absP at h
  unfold nanP infP
  exact ⟨decide_eq_false (by omega), decide_eq_false (by omega)⟩
theorem abs_sum (s : Bool) {k : Nat} (h : k < 2147483648) : absP (sgn s + k) = k := by
  unfold absP
  rcases sgn_two s with e | e <;> rw [e] <;> omega
theorem sign_sum (s : Bool) {k : Nat} (h : k < 2147483648) : decide (2147483648 ≤ sgn s + k) = s := by
  cases s
  · exact decide_eq_false (by show ¬ 2147483648 ≤ 0 + k; omega)
  · exact decide_eq_true (by show 2147483648 ≤ 2147483648 + k; omega)
theorem sum_eq {a : Nat} (ha : a < 4294967296) : a = sgn (decide (2147483648 ≤ a)) + absP a := by
  rw [sgn_of]; unfold absP
  split <;> omega
theorem neg_abs {b : Nat} (hb : b < 4294967296) : absP (negP b) = absP b ∧ decide (2147483648 ≤ negP b) = !decide (2147483648 ≤ b) := by
  unfold negP absP
  by_cases h : b < 2147483648
  · rw [if_pos h]
    refine ⟨by omega, ?_⟩
    rw [decide_eq_true (by omega), decide_eq_false (by omega)]; rfl
  · rw [if_neg h]
    refine ⟨by omega, ?_⟩
    rw [decide_eq_false (by omega), decide_eq_true (by omega)]; rfl
/-- the sum of two finite floats given by sign and bits -/
theorem add_parts (way : Int) (s t : Bool) {m k : Nat} (hm : m < 2139095040) (hk : k < 2139095040) (h0 : ¬ (m = 0 ∧ k = 0)) : addP way (sgn s + m) (sgn t + k) = sumL way s t (amt m) (amt k) := by
  have am := abs_sum s (show m < 2147483648 by omega)
  have ak := abs_sum t (show k < 2147483648 by omega)
  obtain ⟨f1, f2⟩ := fin_of (a := sgn s + m) (by rw [am]; exact hm)
  obtain ⟨g1, g2⟩ := fin_of (a := sgn t + k) (by rw [ak]; exact hk)
  rw [add_law way f1 f2 g1 g2, am, ak, if_neg h0, sign_sum s (by omega), sign_sum t (by omega)]
theorem place_low {k : Nat} (h : k < 2147483648) : placeP k = k := by
  unfold placeP
  rw [if_neg (by omega), Nat.mod_eq_of_lt h]
/-- what the statement's own test says -/
theorem twice {x y : Nat} (hx : x < 2139095040) (hy : y < 2139095040) (h : lessP (addP 0 x x) y = false) : amt y ≤ 2 * amt x := by
  by_cases hc : amt y ≤ 2 * amt x
  · exact hc
  · exfalso
    obtain ⟨m, hm⟩ := double_repr x
    have hmy : m < y := by
      by_cases e : m < y
      · exact e
      · have := amt_mono (show y ≤ m by omega); omega
    have hs : addP 0 x x = m := by
      by_cases h0 : x = 0
      · subst h0
        have : amt m = amt 0 := by rw [hm, amt_zero]
        rw [amt_inj this]
        rfl
      · have e := add_parts 0 false false hx hx (by omega)
        rw [show sgn false + x = x from Nat.zero_add x] at e
        rw [e]
        unfold sumL
        rw [if_pos rfl, rnd_exact (m := m) (by omega) (by omega)]
        exact Nat.zero_add m
    rw [hs] at h
    obtain ⟨f1, -⟩ := fin_of (a := m) (by unfold absP; omega)
    obtain ⟨g1, -⟩ := fin_of (a := y) (by unfold absP; omega)
    unfold lessP at h
    rw [f1, g1, place_low (by omega), place_low (by omega), decide_eq_true (by omega)] at h
    cases h
theorem equal_self {a : Nat} (h : nanP a = false) : equalP a a = true := by
  unfold equalP
  rw [h, decide_eq_true rfl]; rfl
theorem sterbenz {a b : Nat} (ha : a < 4294967296) (hb : b < 4294967296) (hna : nanP a = false) (hia : infP a = false) (hnb : nanP b = false) (hib : infP b = false)
    (hs : decide (2147483648 ≤ a) = decide (2147483648 ≤ b)) (h1 : lessP (addP 0 (absP a) (absP a)) (absP b) = false) (h2 : lessP (addP 0 (absP b) (absP b)) (absP a) = false) :
    (addP 1 a (negP b) = addP 0 a (negP b) ∨ equalP (addP 0 a (negP b)) 0 = true) ∧ equalP (addP 0 (addP 0 a (negP b)) b) a = true := by
  have fx := fin_parts hna hia
  have fy := fin_parts hnb hib
  have t1 := twice fx fy h1
  have t2 := twice fy fx h2
  have ea := sum_eq ha
  have eb := sum_eq hb
  obtain ⟨n1, n2⟩ := neg_abs hb
  have en := sum_eq (neg_lt hb)
  rw [n1, n2, ← hs] at en
  rw [← hs] at eb
  have hself := equal_self hna
  generalize hsd : decide (2147483648 ≤ a) = s at *
  generalize hxd : absP a = x at *
  generalize hyd : absP b = y at *
  have d0 : ∀ way, x = y → addP way a (negP b) = sgn (way == 2) := fun way e => by
    by_cases h0 : x = 0 ∧ y = 0
    · obtain ⟨g1, g2⟩ := fin_of (a := negP b) (by rw [n1]; exact fy)
      rw [add_law way hna hia g1 g2, hxd, n1, if_pos h0, if_neg]
      rw [en, ea, h0.1, h0.2]
      cases s <;> decide
    · rw [en, ea, add_parts way s (!s) fx fy h0]
      unfold sumL
      rw [if_neg (by cases s <;> decide), if_pos (by rw [e])]
  by_cases hxy : x = y
  · have hd := d0 0 hxy
    have hd0 : addP 0 a (negP b) = 0 := hd
    rw [hd0]
    refine ⟨.inr rfl, ?_⟩
    have hab : a = b := by rw [ea, eb, hxy]
    by_cases h0 : y = 0
    · have hp : ∀ z, absP z = 0 → placeP z = 0 := fun z hz => by
        unfold absP at hz
        unfold placeP
        split <;> omega
      have hr : addP 0 0 b = 0 ∨ addP 0 0 b = b := by
        rw [add_law 0 rfl rfl hnb hib, if_pos ⟨rfl, by rw [hyd]; exact h0⟩]
        split
        · exact .inl rfl
        · exact .inl rfl
      rcases hr with hr | hr
      · rw [hr]
        unfold equalP
        rw [hna, decide_eq_true (by rw [hp a (by rw [hxd, hxy, h0])]; rfl)]; rfl
      · rw [hr, ← hab]; exact hself
    · have e : addP 0 0 b = b := by
        have := add_parts 0 false s (m := 0) (k := y) (by omega) fy (by omega)
        rw [show sgn false + 0 = 0 from rfl, ← eb] at this
        rw [this]
        have hq : 0 < amt y := by have := amt_smono (show 0 < y by omega); omega
        unfold sumL
        rw [amt_zero]
        split
        · rename_i hf
          rw [rnd_exact (m := y) (by omega) fy, hf, ← eb]
        · rw [if_neg (by omega), if_neg (by omega), rnd_exact (m := y) (by omega) fy, ← eb]
      rw [e, ← hab]; exact hself
  · have hne : ¬ amt x = amt y := fun e => hxy (amt_inj e)
    by_cases hlt : amt y < amt x
    · obtain ⟨m, hm⟩ := diff_repr (amt_le_iff.1 (by omega)) t2
      have hmx : m ≤ x := amt_le_iff.1 (by omega)
      have hd : ∀ way, addP way a (negP b) = sgn s + m := fun way => by
        rw [en, ea, add_parts way s (!s) fx fy (by rintro ⟨e1, e2⟩; exact hxy (by omega))]
        unfold sumL
        rw [if_neg (by cases s <;> decide), if_neg hne, if_pos hlt]
        exact rnd_exact hm (by omega)
      rw [hd, hd]
      refine ⟨.inl rfl, ?_⟩
      have e : addP 0 (sgn s + m) b = a := by
        rw [eb, add_parts 0 s s (by omega) fy (by rintro ⟨e1, -⟩; subst e1; rw [amt_zero] at hm; omega)]
        unfold sumL
        rw [if_pos rfl, rnd_exact (m := x) (by omega) fx, ← ea]
      rw [e]; exact hself
    · obtain ⟨m, hm⟩ := diff_repr (amt_le_iff.1 (show amt x ≤ amt y by omega)) t1
      have hmy : m ≤ y := amt_le_iff.1 (by omega)
      have hd : ∀ way, addP way a (negP b) = sgn (!s) + m := fun way => by
        rw [en, ea, add_parts way s (!s) fx fy (by rintro ⟨e1, e2⟩; exact hxy (by omega))]
        unfold sumL
        rw [if_neg (by cases s <;> decide), if_neg hne, if_neg hlt]
        exact rnd_exact hm (by omega)
      rw [hd, hd]
      refine ⟨.inl rfl, ?_⟩
      have e : addP 0 (sgn (!s) + m) b = a := by
        rw [eb, add_parts 0 (!s) s (by omega) fy (by rintro ⟨e1, -⟩; subst e1; rw [amt_zero] at hm; omega)]
        unfold sumL
        rw [if_neg (by cases s <;> decide), if_neg (by omega), if_neg (by omega), rnd_exact (m := x) (by omega) fx, ← ea]
      rw [e]; exact hself
end Go.Proofs.Ytkdlkjoeoahfpaa
