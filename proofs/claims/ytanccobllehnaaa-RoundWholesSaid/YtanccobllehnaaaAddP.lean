/- Plain: AddBy's sum is the exact sum, rounded. -/
import Derived.Test.YtanccobllehnaaaSwapP
namespace Go.Proofs.Ytanccobllehnaaa

/-- how many times 2^-149 a number taken apart is -/
def amtN (x : Num) : Nat := x.sig * two (x.exp + 149).toNat
theorem amtN_open {a : Nat} {x : Num} (hx : openN a = x) (hn : x.nan = false) (hi : x.inf = false) : amtN x = amt (absP a) := by
  subst hx
  unfold openN at hn hi ⊢
  unfold amtN amt absP
  have e1 : a % 2147483648 / 8388608 = a / 8388608 % 256 := by omega
  have e2 : a % 2147483648 % 8388608 = a % 8388608 := by omega
  rw [e1, e2]
  split at hn
  · rename_i h
    rw [if_pos h] at hi
    simp at hn hi
    omega
  · rename_i h
    rw [if_neg h]
    split
    · show a % 8388608 * two 0 = _
      rw [show two 0 = 1 from rfl]
      omega
    · show (a % 8388608 + 8388608) * two (((a / 8388608 % 256 : Nat) : Int) - 150 + 149).toNat = _
      rw [Nat.add_comm, show (((a / 8388608 % 256 : Nat) : Int) - 150 + 149).toNat = a / 8388608 % 256 - 1 from by omega]
/-- an exact number of the exponent's steps -/
theorem round_exact {way : Int} {neg : Bool} {exp : Int} {sig p : Nat} (hs : 0 < sig) (hs64 : sig < 18446744073709551616) (he : 0 ≤ exp + 149) (h : sig * two (exp + 149).toNat = p) : roundP way neg exp sig false = rnd way neg p 1 := by
  refine round_rnd hs hs64 (by decide) ?_
  unfold RV
  rw [show (-(exp + 149)).toNat = 0 from by omega]
  simp [two]
  unfold two at h
  exact h
theorem round_more {way : Int} {neg : Bool} {exp : Int} {sig p : Nat} (hs : 16777216 ≤ sig) (hs64 : sig < 18446744073709551616) (he : 0 ≤ exp + 149) (h1 : sig * two (exp + 149).toNat < p) (h2 : p < (sig + 1) * two (exp + 149).toNat) : roundP way neg exp sig true = rnd way neg p 1 := by
  refine round_rnd (by omega) hs64 (by decide) ?_
  unfold RV
  rw [show (-(exp + 149)).toNat = 0 from by omega]
  simp only [if_true, Nat.mul_one, show two 0 = 1 from rfl]
  exact ⟨h1, h2, .inl hs⟩
/-- the sum of two, by their amounts -/
def sumL (way : Int) (xn yn : Bool) (p q : Nat) : Nat :=
  if xn = yn then rnd way xn (p + q) 1 else if p = q then sgn (way == 2) else if q < p then rnd way xn (p - q) 1 else rnd way yn (q - p) 1
theorem sumL_comm {way : Int} {xn yn : Bool} {p q : Nat} : sumL way xn yn p q = sumL way yn xn q p := by
  unfold sumL
  by_cases h : xn = yn
  · rw [if_pos h, if_pos h.symm, h, Nat.add_comm]
  · rw [if_neg h, if_neg (show ¬ yn = xn from fun e => h e.symm)]
    by_cases e : p = q
    · rw [if_pos e, if_pos e.symm]
    · rw [if_neg e, if_neg (show ¬ q = p from fun h => e h.symm)]
      by_cases l : q < p
      · rw [if_pos l, if_neg (by omega)]
      · rw [if_neg l, if_pos (by omega)]
theorem core_law {way : Int} {x y : Num} (hx : x.sig < 16777216) (hy : y.sig < 16777216) (hle : y.exp ≤ x.exp) (hnm : -149 < x.exp → 8388608 ≤ x.sig) (hey : -149 ≤ y.exp) (hnz : ¬ (x.sig = 0 ∧ y.sig = 0)) :
    coreN way x y = sumL way x.neg y.neg (amtN x) (amtN y) := by
  obtain ⟨xn, xnan, xinf, xe, xs⟩ := x
  obtain ⟨yn, ynan, yinf, ye, ys⟩ := y
  dsimp only at *
  unfold coreN sumL amtN
  dsimp only
  obtain ⟨d, hd⟩ : ∃ d : Nat, xe - ye = (d : Int) := ⟨(xe - ye).toNat, by omega⟩
  obtain ⟨f, hf⟩ : ∃ f : Nat, ye + 149 = (f : Int) := ⟨(ye + 149).toNat, by omega⟩
  rw [show (xe - ye).toNat = d from by omega, show (ye + 149).toNat = f from by omega, show (xe + 149).toNat = d + f from by omega]
  have tf := two_pos f
  by_cases h38 : d ≤ 38
  · rw [if_pos h38]
    have h2 := two_le h38
    rw [show two 38 = 274877906944 from rfl] at h2
    have hm : xs * two d ≤ 16777215 * 274877906944 := Nat.mul_le_mul (by omega) h2
    have ep : xs * two (d + f) = xs * two d * two f := by rw [two_add, Nat.mul_assoc]
    have hz : xs = 0 → xs * two d = 0 := fun h => by rw [h, Nat.zero_mul]
    have hz' : xs * two d = 0 → xs = 0 := fun h => by
      have := two_pos d
      rcases Nat.mul_eq_zero.1 h with h | h <;> omega
    rw [ep]
    generalize xs * two d = H at *
    have hE : ∀ s, s * two (ye + 149).toNat = s * two f := fun s => by rw [show (ye + 149).toNat = f from by omega]
    by_cases hn : xn = yn
    · rw [if_pos hn, if_pos hn]
      refine round_exact (by omega) (by omega) (by omega) ?_
      rw [hE, Nat.add_mul]
    · rw [if_neg hn, if_neg hn]
      by_cases he : H = ys
      · rw [if_pos he, if_pos (by rw [he])]
      · have hne : ¬ H * two f = ys * two f := fun e => he (Nat.eq_of_mul_eq_mul_right tf e)
        rw [if_neg he, if_neg hne]
        by_cases hl : ys < H
        · rw [if_pos hl, if_pos (Nat.mul_lt_mul_of_pos_right hl tf)]
          refine round_exact (by omega) (by omega) (by omega) ?_
          rw [hE, Nat.mul_sub_right_distrib]
        · have hnl : ¬ ys * two f < H * two f := fun h => hl (Nat.lt_of_mul_lt_mul_right h)
          rw [if_neg hl, if_neg hnl]
          refine round_exact (by omega) (by omega) (by omega) ?_
          rw [hE, Nat.mul_sub_right_distrib]
  · rw [if_neg h38]
    have hxs : 8388608 ≤ xs := hnm (by omega)
    obtain ⟨k, hk⟩ : ∃ k : Nat, d = 38 + k := ⟨d - 38, by omega⟩
    subst hk
    rw [show 38 + k - 38 = k from by omega]
    have ep : xs * two (38 + k + f) = xs * 274877906944 * two (k + f) := by
      rw [Nat.add_assoc, two_add, ← Nat.mul_assoc]
      rfl
    have hE : ∀ s, s * two (xe - 38 + 149).toNat = s * two (k + f) := fun s => by rw [show (xe - 38 + 149).toNat = k + f from by omega]
    have hdm := Nat.div_add_mod ys (two k)
    have hml := Nat.mod_lt ys (two_pos k)
    have eq1 : ys * two f = ys / two k * two (k + f) + ys % two k * two f := by
      conv => lhs; rw [← hdm]
      rw [Nat.add_mul, Nat.mul_comm (two k), Nat.mul_assoc, ← two_add]
    have hL : ys / two k ≤ ys := Nat.div_le_self _ _
    have hR : ys % two k * two f < two (k + f) := by rw [two_add]; exact Nat.mul_lt_mul_of_pos_right hml tf
    have hR0 : ys % two k = 0 → ys % two k * two f = 0 := fun h => by rw [h, Nat.zero_mul]
    have hR1 : ys % two k ≠ 0 → 0 < ys % two k * two f := fun h => Nat.mul_pos (Nat.pos_of_ne_zero h) tf
    rw [ep, eq1]
    have hkf := two_pos (k + f)
    clear hdm hml eq1
    generalize ys / two k = L at *
    generalize hrem : ys % two k = R at *
    generalize R * two f = RF at *
    have hgt : L * two (k + f) + RF < xs * 274877906944 * two (k + f) := by
      have h1 : (L + 1) * two (k + f) ≤ xs * 274877906944 * two (k + f) := Nat.mul_le_mul_right _ (by omega)
      rw [Nat.add_mul, Nat.one_mul] at h1
      omega
    by_cases hn : xn = yn
    · rw [if_pos hn, if_pos hn]
      by_cases h0 : R = 0
      · rw [decide_eq_false (by simpa using h0)]
        refine round_exact (by omega) (by omega) (by omega) ?_
        rw [hE, Nat.add_mul, hR0 h0]; omega
      · rw [decide_eq_true h0]
        have := hR1 h0
        refine round_more (by omega) (by omega) (by omega) ?_ ?_
        · rw [hE, Nat.add_mul]; omega
        · rw [hE, Nat.add_mul, Nat.add_mul]; omega
    · rw [if_neg hn, if_neg hn, if_neg (by omega : ¬ xs * 274877906944 * two (k + f) = L * two (k + f) + RF), if_pos hgt]
      by_cases h0 : R = 0
      · rw [if_neg (by omega : ¬ R ≠ 0)]
        refine round_exact (by omega) (by omega) (by omega) ?_
        rw [hE, Nat.mul_sub_right_distrib, hR0 h0]; omega
      · rw [if_pos h0]
        have := hR1 h0
        have e1 : (xs * 274877906944 - L - 1 + 1) * two (k + f) = xs * 274877906944 * two (k + f) - L * two (k + f) := by
          rw [show xs * 274877906944 - L - 1 + 1 = xs * 274877906944 - L from by omega, Nat.mul_sub_right_distrib]
        have e2 : (xs * 274877906944 - L - 1) * two (k + f) = xs * 274877906944 * two (k + f) - L * two (k + f) - two (k + f) := by
          rw [Nat.mul_sub_right_distrib, Nat.mul_sub_right_distrib, Nat.one_mul]
        refine round_more (by omega) (by omega) (by omega) ?_ ?_
        · rw [hE, e2]; omega
        · rw [hE, e1]; omega
/-- the sum of two finite floats -/
theorem add_law (way : Int) {a b : Nat} (hna : nanP a = false) (hia : infP a = false) (hnb : nanP b = false) (hib : infP b = false) :
    addP way a b = if absP a = 0 ∧ absP b = 0 then (if a = b then a else sgn (way == 2)) else sumL way (decide (2147483648 ≤ a)) (decide (2147483648 ≤ b)) (amt (absP a)) (amt (absP b)) := by
  obtain ⟨o1, o2⟩ := open_nan a
  obtain ⟨p1, p2⟩ := open_nan b
  rw [hna] at o1
  rw [hia] at o2
  rw [hnb] at p1
  rw [hib] at p2
  unfold addP
  have ma := amtN_open rfl o1 o2
  have mb := amtN_open rfl p1 p2
  have na : ∀ c, (openN c).neg = decide (2147483648 ≤ c) := fun c => by
    unfold openN; split
    · rfl
    · split <;> rfl
  have za : ∀ c, (openN c).nan = false → (openN c).inf = false → ((openN c).sig = 0 ↔ absP c = 0) := fun c h1 h2 => by
    unfold openN absP at *
    split at h1
    · rename_i h
      rw [if_pos h] at h2
      simp at h1 h2
      omega
    · rename_i h
      rw [if_neg h]
      split
      · rename_i h0
        show c % 8388608 = 0 ↔ _
        omega
      · rename_i h0
        show c % 8388608 + 8388608 = 0 ↔ _
        omega
  have zax := za a o1 o2
  have zbx := za b p1 p2
  rw [← ma, ← mb, ← na a, ← na b]
  obtain ⟨x, hx⟩ : ∃ x, openN a = x := ⟨_, rfl⟩
  obtain ⟨y, hy⟩ : ∃ y, openN b = y := ⟨_, rfl⟩
  have HX := Lib.hid hx
  have HY := Lib.hid hy
  rw [hx] at o1 o2 zax
  rw [hy] at p1 p2 zbx
  rw [hx, hy]
  clear hx hy ma mb na za
  obtain ⟨xn, xnan, xinf, xe, xs⟩ := x
  obtain ⟨yn, ynan, yinf, ye, ys⟩ := y
  obtain ⟨hx1, hx2, hx3⟩ := openN_ok HX.out
  obtain ⟨hy1, hy2, hy3⟩ := openN_ok HY.out
  have hxn := open_norm HX.out
  have hyn := open_norm HY.out
  dsimp only at *
  subst o1 o2 p1 p2
  unfold addN
  dsimp only
  rw [if_neg (by simp), if_neg (by simp), if_neg (by simp)]
  by_cases hz : xs = 0 ∧ ys = 0
  · rw [if_pos hz, if_pos (show absP a = 0 ∧ absP b = 0 from ⟨zax.1 hz.1, zbx.1 hz.2⟩)]
  · rw [if_neg hz, if_neg (show ¬ (absP a = 0 ∧ absP b = 0) from fun h => hz ⟨zax.2 h.1, zbx.2 h.2⟩)]
    by_cases l : xe < ye
    · rw [if_pos l, core_law hy1 hx1 (by show xe ≤ ye; omega) (hyn rfl rfl) hx2 (fun h => hz ⟨h.2, h.1⟩), sumL_comm]
    · rw [if_neg l, core_law hx1 hy1 (by show ye ≤ xe; omega) (hxn rfl rfl) hy2 hz]
end Go.Proofs.Ytanccobllehnaaa
