import Derived.Test.YtegeadkilolngaaMSoft
import Derived.Deep.Slices
import Derived.Deep.DeepMust
import Derived.Deep.CutRange
import Derived.Deep.CutBlock
/- Plain: sums and products changed about; what comes out is its own Canon; a finite one less itself. And Canon's contract. -/
namespace Go.Proofs.Ytegeadkilolngaa
open Go.RowKit

theorem sgn_two (neg : Bool) : sgn neg = 0 ∨ sgn neg = 2147483648 := by cases neg <;> simp [sgn]
theorem sgn_of {a : Nat} : sgn (decide (2147483648 ≤ a)) = if 2147483648 ≤ a then 2147483648 else 0 := by
  unfold sgn; simp
theorem open_inf {a : Nat} {x : Num} (h : a < 4294967296) (hx : openN a = x) (hi : x.inf = true) : a = sgn x.neg + 2139095040 := by
  subst hx
  unfold openN at hi ⊢
  split at hi
  · rename_i he
    simp at hi
    rw [if_pos he]
    show a = sgn (decide (2147483648 ≤ a)) + 2139095040
    rw [sgn_of]
    split <;> omega
  · split at hi <;> simp at hi
theorem open_zero {a : Nat} {x : Num} (h : a < 4294967296) (hx : openN a = x) (hn : x.nan = false) (hi : x.inf = false) (hs : x.sig = 0) : a = sgn x.neg := by
  subst hx
  unfold openN at hn hi hs ⊢
  split at hn
  · rename_i he
    rw [if_pos he] at hi
    simp at hn hi
    omega
  · rename_i he
    rw [if_neg he] at hs ⊢
    split at hs
    · rename_i h0
      rw [if_pos h0]
      show a = sgn (decide (2147483648 ≤ a))
      rw [sgn_of]
      have hs : a % 8388608 = 0 := hs
      split <;> omega
    · have hs : a % 8388608 + 8388608 = 0 := hs
      omega
theorem coreN_comm {way : Int} {x y : Num} (h : x.exp = y.exp) : coreN way x y = coreN way y x := by
  unfold coreN
  rw [h]
  simp only [Int.sub_self, Int.toNat_zero, Nat.zero_le, if_true]
  have e1 : ∀ s, s * two 0 = s := fun s => Nat.mul_one s
  rw [e1, e1]
  by_cases hn : x.neg = y.neg
  · rw [if_pos hn, if_pos hn.symm, hn, Nat.add_comm]
  · rw [if_neg hn, if_neg (show ¬ y.neg = x.neg from fun e => hn e.symm)]
    by_cases he : x.sig = y.sig
    · rw [if_pos he, if_pos he.symm]
    · rw [if_neg he, if_neg (show ¬ y.sig = x.sig from fun e => he e.symm)]
      by_cases hl : y.sig < x.sig
      · rw [if_pos hl, if_neg (by omega)]
      · rw [if_neg hl, if_pos (by omega)]
theorem addP_comm (way : Int) {a b : Nat} (ha : a < 4294967296) (hb : b < 4294967296) : addP way b a = addP way a b := by
  unfold addP
  obtain ⟨x, hx⟩ : ∃ x, openN a = x := ⟨_, rfl⟩
  obtain ⟨y, hy⟩ : ∃ y, openN b = y := ⟨_, rfl⟩
  have ix := open_inf ha hx
  have iy := open_inf hb hy
  have zx := open_zero ha hx
  have zy := open_zero hb hy
  rw [hx, hy]
  unfold addN
  have e1 : (y.nan || x.nan || (y.inf && x.inf && y.neg != x.neg)) = (x.nan || y.nan || (x.inf && y.inf && x.neg != y.neg)) := by
    cases x.nan <;> cases y.nan <;> cases x.inf <;> cases y.inf <;> cases x.neg <;> cases y.neg <;> rfl
  rw [e1]
  by_cases hn : (x.nan || y.nan || (x.inf && y.inf && x.neg != y.neg)) = true
  · rw [if_pos hn, if_pos hn]
  · rw [if_neg hn, if_neg hn]
    by_cases h1 : x.inf = true
    · by_cases h2 : y.inf = true
      · rw [if_pos h2, if_pos h1]
        have hs : x.neg = y.neg := by
          cases hxn : x.neg <;> cases hyn : y.neg <;> first | rfl | (exfalso; apply hn; simp [h1, h2, hxn, hyn])
        rw [ix h1, iy h2, hs]
      · rw [if_neg h2, if_pos h1, if_pos h1]
    · by_cases h2 : y.inf = true
      · rw [if_pos h2, if_neg h1, if_pos h2]
      · rw [if_neg h2, if_neg h1, if_neg h1, if_neg h2]
        by_cases hz : x.sig = 0 ∧ y.sig = 0
        · rw [if_pos ⟨hz.2, hz.1⟩, if_pos hz]
          by_cases e : a = b
          · rw [if_pos e.symm, if_pos e, e]
          · rw [if_neg (fun h => e h.symm), if_neg e]
        · rw [if_neg (fun h => hz ⟨h.2, h.1⟩), if_neg hz]
          by_cases l1 : x.exp < y.exp
          · rw [if_neg (by omega), if_pos l1]
          · by_cases l2 : y.exp < x.exp
            · rw [if_pos l2, if_neg l1]
            · rw [if_neg l2, if_neg l1, coreN_comm (by omega)]
theorem mulP_comm (way : Int) (a b : Nat) : mulP way b a = mulP way a b := by
  unfold mulP mulN
  generalize openN a = x
  generalize openN b = y
  have e1 : (y.neg != x.neg) = (x.neg != y.neg) := by cases x.neg <;> cases y.neg <;> rfl
  have e2 : (y.nan || x.nan || (y.inf && !x.inf && x.sig == 0) || (x.inf && !y.inf && y.sig == 0)) = (x.nan || y.nan || (x.inf && !y.inf && y.sig == 0) || (y.inf && !x.inf && x.sig == 0)) := by
    cases x.nan <;> cases y.nan <;> cases x.inf <;> cases y.inf <;> simp
  have e3 : (y.inf || x.inf) = (x.inf || y.inf) := Bool.or_comm _ _
  rw [e1, e2, e3, Int.add_comm y.exp, Nat.mul_comm y.sig]

/-- a float that is its own Canon -/
def okR (r : Nat) : Prop := r < 4294967296 ∧ (r = 2143289344 ∨ r % 2147483648 ≤ 2139095040)
theorem okR.canon {r : Nat} (h : okR r) : canonP r = r := by
  unfold canonP nanP
  rcases h.2 with e | e
  · subst e; rfl
  · rw [decide_eq_false (by omega), if_neg (by decide)]
theorem okR.nan : okR 2143289344 := ⟨by decide, .inl rfl⟩
theorem okR.sum (neg : Bool) {k : Nat} (h : k ≤ 2139095040) : okR (sgn neg + k) := by
  unfold okR
  rcases sgn_two neg with e | e <;> rw [e] <;> omega
theorem okR.sgn (neg : Bool) : okR (sgn neg) := by
  have := okR.sum neg (k := 0) (by omega)
  simpa using this
theorem okR.huge (way : Int) (neg : Bool) : okR (hugeP way neg) := by
  unfold hugeP
  refine okR.sum neg ?_
  split <;> omega
theorem okR.finU (way : Int) (neg : Bool) (o : Nat) : okR (finU way neg o) := by
  unfold Go.Proofs.Ytegeadkilolngaa.finU
  split
  · exact okR.huge _ _
  · exact okR.sum neg (by omega)
theorem okR.round (way : Int) (neg : Bool) (exp : Int) (sig : Nat) (more : Bool) : okR (roundP way neg exp sig more) := by
  unfold roundP
  split
  · exact okR.sgn _
  · split
    · unfold tinyP
      refine okR.sum neg ?_
      split <;> omega
    · split
      · exact okR.huge _ _
      · dsimp only
        split
        · exact okR.finU _ _ _
        · split
          · exact okR.finU _ _ _
          · exact okR.finU _ _ _
theorem okR.core (way : Int) (x y : Num) : okR (coreN way x y) := by
  unfold coreN
  dsimp only
  split
  · split
    · exact okR.round _ _ _ _ _
    · split
      · exact okR.sgn _
      · split
        · exact okR.round _ _ _ _ _
        · exact okR.round _ _ _ _ _
  · split
    · exact okR.round _ _ _ _ _
    · split
      · exact okR.round _ _ _ _ _
      · exact okR.round _ _ _ _ _
theorem okR.add (way : Int) {a b : Nat} (ha : a < 4294967296) (hb : b < 4294967296) : okR (addP way a b) := by
  unfold addP
  obtain ⟨x, hx⟩ : ∃ x, openN a = x := ⟨_, rfl⟩
  obtain ⟨y, hy⟩ : ∃ y, openN b = y := ⟨_, rfl⟩
  have ix := open_inf ha hx
  have iy := open_inf hb hy
  have zx := open_zero ha hx
  rw [hx, hy]
  unfold addN
  split
  · exact okR.nan
  · rename_i hn
    split
    · rename_i h1; rw [ix h1]; exact okR.sum _ (Nat.le_refl _)
    · rename_i h1
      split
      · rename_i h2; rw [iy h2]; exact okR.sum _ (Nat.le_refl _)
      · split
        · rename_i hz
          split
          · have hxn : x.nan = false := by cases h : x.nan <;> simp [h] at hn ⊢
            rw [zx hxn (by simpa using h1) hz.1]; exact okR.sgn _
          · exact okR.sgn _
        · split
          · exact okR.core _ _ _
          · exact okR.core _ _ _
theorem okR.mul (way : Int) (a b : Nat) : okR (mulP way a b) := by
  unfold mulP mulN
  split
  · exact okR.nan
  · split
    · exact okR.sum _ (Nat.le_refl _)
    · exact okR.round _ _ _ _ _
theorem okR.div (way : Int) (a b : Nat) : okR (divP way a b) := by
  unfold divP divN
  split
  · exact okR.nan
  · split
    · exact okR.sum _ (Nat.le_refl _)
    · split
      · exact okR.sgn _
      · exact okR.round _ _ _ _ _
theorem open_neg {a : Nat} (h : a < 4294967296) : openN (negP a) = ⟨!(openN a).neg, (openN a).nan, (openN a).inf, (openN a).exp, (openN a).sig⟩ := by
  have e1 : negP a / 8388608 % 256 = a / 8388608 % 256 := by unfold negP; split <;> omega
  have e2 : negP a % 8388608 = a % 8388608 := by unfold negP; split <;> omega
  have e3 : decide (2147483648 ≤ negP a) = !decide (2147483648 ≤ a) := by
    unfold negP
    by_cases hh : a < 2147483648
    · rw [if_pos hh, decide_eq_true (by omega), decide_eq_false (by omega)]; rfl
    · rw [if_neg hh, decide_eq_false (by omega), decide_eq_true (by omega)]; rfl
  unfold openN
  rw [e1, e2, e3]
  split
  · rfl
  · split <;> rfl
theorem open_nan (a : Nat) : (openN a).nan = nanP a ∧ (openN a).inf = infP a := by
  unfold openN nanP infP
  by_cases h1 : a / 8388608 % 256 = 255
  · rw [if_pos h1]
    constructor
    · show decide (a % 8388608 ≠ 0) = _
      congr 1; apply propext; omega
    · show decide (a % 8388608 = 0) = _
      congr 1; apply propext; omega
  · rw [if_neg h1]
    have e1 : decide (2139095040 < a % 2147483648) = false := decide_eq_false (by omega)
    have e2 : decide (a % 2147483648 = 2139095040) = false := decide_eq_false (by omega)
    rw [e1, e2]
    split <;> exact ⟨rfl, rfl⟩
theorem sub_self {a : Nat} (h : a < 4294967296) (hn : nanP a = false) (hi : infP a = false) : addP 0 a (negP a) = 0 := by
  obtain ⟨o1, o2⟩ := open_nan a
  rw [hn] at o1
  rw [hi] at o2
  have hne : a ≠ negP a := by unfold negP; split <;> omega
  unfold addP
  rw [open_neg h]
  generalize openN a = x at *
  unfold addN
  simp only [o1, o2, Bool.or_self, Bool.and_self, Bool.false_and, Bool.false_eq_true, if_false, and_self, hne, Int.lt_irrefl]
  split
  · rfl
  · unfold coreN
    simp only [Int.sub_self, Int.toNat_zero, Nat.zero_le, if_true]
    rw [if_neg (by cases x.neg <;> simp), if_pos (show x.sig * two 0 = x.sig from Nat.mul_one _)]
    rfl
end Go.Proofs.Ytegeadkilolngaa

/- Plain: AddBy's sum is the exact sum, rounded. -/
namespace Go.Proofs.Ytegeadkilolngaa

/-- how many times 2^-149 a number taken apart is -/
def amtN (x : Num) : Nat := x.sig * two (x.exp + 149).toNat
theorem amtN_open {a : Nat} {x : Num} (hx : openN a = x) (hn : x.nan = false) (hi : x.inf = false) : amtN x = amt (absP a) := by
  subst hx
  unfold openN at hn hi ⊢
  unfold amtN amt absP
  have e1 : a % 2147483648 / 8388608 = a / 8388608 % 256 := by omega
  have e2 : a % 2147483648 % 8388608 = a % 8388608 := by omega
  rw [e1, e2]
  split at hn
  · rename_i h
    rw [if_pos h] at hi
    simp at hn hi
    omega
  · rename_i h
    rw [if_neg h]
    split
    · show a % 8388608 * two 0 = _
      rw [show two 0 = 1 from rfl]
      omega
    · show (a % 8388608 + 8388608) * two (((a / 8388608 % 256 : Nat) : Int) - 150 + 149).toNat = _
      rw [Nat.add_comm, show (((a / 8388608 % 256 : Nat) : Int) - 150 + 149).toNat = a / 8388608 % 256 - 1 from by omega]
/-- an exact number of the exponent's steps -/
theorem round_exact {way : Int} {neg : Bool} {exp : Int} {sig p : Nat} (hs : 0 < sig) (hs64 : sig < 18446744073709551616) (he : 0 ≤ exp + 149) (h : sig * two (exp + 149).toNat = p) : roundP way neg exp sig false = rnd way neg p 1 := by
  refine round_rnd hs hs64 (by decide) ?_
  unfold RV
  rw [show (-(exp + 149)).toNat = 0 from by omega]
  simp [two]
  unfold two at h
  exact h
theorem round_more {way : Int} {neg : Bool} {exp : Int} {sig p : Nat} (hs : 16777216 ≤ sig) (hs64 : sig < 18446744073709551616) (he : 0 ≤ exp + 149) (h1 : sig * two (exp + 149).toNat < p) (h2 : p < (sig + 1) * two (exp + 149).toNat) : roundP way neg exp sig true = rnd way neg p 1 := by
  refine round_rnd (by omega) hs64 (by decide) ?_
  unfold RV
  rw [show (-(exp + 149)).toNat = 0 from by omega]
  simp only [if_true, Nat.mul_one, show two 0 = 1 from rfl]
  exact ⟨h1, h2, .inl hs⟩
/-- the sum of two, by their amounts -/
def sumL (way : Int) (xn yn : Bool) (p q : Nat) : Nat :=
  if xn = yn then rnd way xn (p + q) 1 else if p = q then sgn (way == 2) else if q < p then rnd way xn (p - q) 1 else rnd way yn (q - p) 1
theorem sumL_comm {way : Int} {xn yn : Bool} {p q : Nat} : sumL way xn yn p q = sumL way yn xn q p := by
  unfold sumL
  by_cases h : xn = yn
  · rw [if_pos h, if_pos h.symm, h, Nat.add_comm]
  · rw [if_neg h, if_neg (show ¬ yn = xn from fun e => h e.symm)]
    by_cases e : p = q
    · rw [if_pos e, if_pos e.symm]
    · rw [if_neg e, if_neg (show ¬ q = p from fun h => e h.symm)]
      by_cases l : q < p
      · rw [if_pos l, if_neg (by omega)]
      · rw [if_neg l, if_pos (by omega)]
theorem core_law {way : Int} {x y : Num} (hx : x.sig < 16777216) (hy : y.sig < 16777216) (hle : y.exp ≤ x.exp) (hnm : -149 < x.exp → 8388608 ≤ x.sig) (hey : -149 ≤ y.exp) (hnz : ¬ (x.sig = 0 ∧ y.sig = 0)) :
    coreN way x y = sumL way x.neg y.neg (amtN x) (amtN y) := by
  obtain ⟨xn, xnan, xinf, xe, xs⟩ := x
  obtain ⟨yn, ynan, yinf, ye, ys⟩ := y
  dsimp only at *
  unfold coreN sumL amtN
  dsimp only
  obtain ⟨d, hd⟩ : ∃ d : Nat, xe - ye = (d : Int) := ⟨(xe - ye).toNat, by omega⟩
  obtain ⟨f, hf⟩ : ∃ f : Nat, ye + 149 = (f : Int) := ⟨(ye + 149).toNat, by omega⟩
  rw [show (xe - ye).toNat = d from by omega, show (ye + 149).toNat = f from by omega, show (xe + 149).toNat = d + f from by omega]
  have tf := two_pos f
  by_cases h38 : d ≤ 38
  · rw [if_pos h38]
    have h2 := two_le h38
    rw [show two 38 = 274877906944 from rfl] at h2
    have hm : xs * two d ≤ 16777215 * 274877906944 := Nat.mul_le_mul (by omega) h2
    have ep : xs * two (d + f) = xs * two d * two f := by rw [two_add, Nat.mul_assoc]
    have hz : xs = 0 → xs * two d = 0 := fun h => by rw [h, Nat.zero_mul]
    have hz' : xs * two d = 0 → xs = 0 := fun h => by
      have := two_pos d
      rcases Nat.mul_eq_zero.1 h with h | h <;> omega
    rw [ep]
    generalize xs * two d = H at *
    have hE : ∀ s, s * two (ye + 149).toNat = s * two f := fun s => by rw [show (ye + 149).toNat = f from by omega]
    by_cases hn : xn = yn
    · rw [if_pos hn, if_pos hn]
      refine round_exact (by omega) (by omega) (by omega) ?_
      rw [hE, Nat.add_mul]
    · rw [if_neg hn, if_neg hn]
      by_cases he : H = ys
      · rw [if_pos he, if_pos (by rw [he])]
      · have hne : ¬ H * two f = ys * two f := fun e => he (Nat.eq_of_mul_eq_mul_right tf e)
        rw [if_neg he, if_neg hne]
        by_cases hl : ys < H
        · rw [if_pos hl, if_pos (Nat.mul_lt_mul_of_pos_right hl tf)]
          refine round_exact (by omega) (by omega) (by omega) ?_
          rw [hE, Nat.mul_sub_right_distrib]
        · have hnl : ¬ ys * two f < H * two f := fun h => hl (Nat.lt_of_mul_lt_mul_right h)
          rw [if_neg hl, if_neg hnl]
          refine round_exact (by omega) (by omega) (by omega) ?_
          rw [hE, Nat.mul_sub_right_distrib]
  · rw [if_neg h38]
    have hxs : 8388608 ≤ xs := hnm (by omega)
    obtain ⟨k, hk⟩ : ∃ k : Nat, d = 38 + k := ⟨d - 38, by omega⟩
    subst hk
    rw [show 38 + k - 38 = k from by omega]
    have ep : xs * two (38 + k + f) = xs * 274877906944 * two (k + f) := by
      rw [Nat.add_assoc, two_add, ← Nat.mul_assoc]
      rfl
    have hE : ∀ s, s * two (xe - 38 + 149).toNat = s * two (k + f) := fun s => by rw [show (xe - 38 + 149).toNat = k + f from by omega]
    have hdm := Nat.div_add_mod ys (two k)
    have hml := Nat.mod_lt ys (two_pos k)
    have eq1 : ys * two f = ys / two k * two (k + f) + ys % two k * two f := by
      conv => lhs; rw [← hdm]
      rw [Nat.add_mul, Nat.mul_comm (two k), Nat.mul_assoc, ← two_add]
    have hL : ys / two k ≤ ys := Nat.div_le_self _ _
    have hR : ys % two k * two f < two (k + f) := by rw [two_add]; exact Nat.mul_lt_mul_of_pos_right hml tf
    have hR0 : ys % two k = 0 → ys % two k * two f = 0 := fun h => by rw [h, Nat.zero_mul]
    have hR1 : ys % two k ≠ 0 → 0 < ys % two k * two f := fun h => Nat.mul_pos (Nat.pos_of_ne_zero h) tf
    rw [ep, eq1]
    have hkf := two_pos (k + f)
    clear hdm hml eq1
    generalize ys / two k = L at *
    generalize hrem : ys % two k = R at *
    generalize R * two f = RF at *
    have hgt : L * two (k + f) + RF < xs * 274877906944 * two (k + f) := by
      have h1 : (L + 1) * two (k + f) ≤ xs * 274877906944 * two (k + f) := Nat.mul_le_mul_right _ (by omega)
      rw [Nat.add_mul, Nat.one_mul] at h1
      omega
    by_cases hn : xn = yn
    · rw [if_pos hn, if_pos hn]
      by_cases h0 : R = 0
      · rw [decide_eq_false (by simpa using h0)]
        refine round_exact (by omega) (by omega) (by omega) ?_
        rw [hE, Nat.add_mul, hR0 h0]; omega
      · rw [decide_eq_true h0]
        have := hR1 h0
        refine round_more (by omega) (by omega) (by omega) ?_ ?_
        · rw [hE, Nat.add_mul]; omega
        · rw [hE, Nat.add_mul, Nat.add_mul]; omega
    · rw [if_neg hn, if_neg hn, if_neg (by omega : ¬ xs * 274877906944 * two (k + f) = L * two (k + f) + RF), if_pos hgt]
      by_cases h0 : R = 0
      · rw [if_neg (by omega : ¬ R ≠ 0)]
        refine round_exact (by omega) (by omega) (by omega) ?_
        rw [hE, Nat.mul_sub_right_distrib, hR0 h0]; omega
      · rw [if_pos h0]
        have := hR1 h0
        have e1 : (xs * 274877906944 - L - 1 + 1) * two (k + f) = xs * 274877906944 * two (k + f) - L * two (k + f) := by
          rw [show xs * 274877906944 - L - 1 + 1 = xs * 274877906944 - L from by omega, Nat.mul_sub_right_distrib]
        have e2 : (xs * 274877906944 - L - 1) * two (k + f) = xs * 274877906944 * two (k + f) - L * two (k + f) - two (k + f) := by
          rw [Nat.mul_sub_right_distrib, Nat.mul_sub_right_distrib, Nat.one_mul]
        refine round_more (by omega) (by omega) (by omega) ?_ ?_
        · rw [hE, e2]; omega
        · rw [hE, e1]; omega
/-- the sum of two finite floats -/
theorem add_law (way : Int) {a b : Nat} (hna : nanP a = false) (hia : infP a = false) (hnb : nanP b = false) (hib : infP b = false) :
    addP way a b = if absP a = 0 ∧ absP b = 0 then (if a = b then a else sgn (way == 2)) else sumL way (decide (2147483648 ≤ a)) (decide (2147483648 ≤ b)) (amt (absP a)) (amt (absP b)) := by
  obtain ⟨o1, o2⟩ := open_nan a
  obtain ⟨p1, p2⟩ := open_nan b
  rw [hna] at o1
  rw [hia] at o2
  rw [hnb] at p1
  rw [hib] at p2
  unfold addP
  have ma := amtN_open rfl o1 o2
  have mb := amtN_open rfl p1 p2
  have na : ∀ c, (openN c).neg = decide (2147483648 ≤ c) := fun c => by
    unfold openN; split
    · rfl
    · split <;> rfl
  have za : ∀ c, (openN c).nan = false → (openN c).inf = false → ((openN c).sig = 0 ↔ absP c = 0) := fun c h1 h2 => by
    unfold openN absP at *
    split at h1
    · rename_i h
      rw [if_pos h] at h2
      simp at h1 h2
      omega
    · rename_i h
      rw [if_neg h]
      split
      · rename_i h0
        show c % 8388608 = 0 ↔ _
        omega
      · rename_i h0
        show c % 8388608 + 8388608 = 0 ↔ _
        omega
  have zax := za a o1 o2
  have zbx := za b p1 p2
  rw [← ma, ← mb, ← na a, ← na b]
  obtain ⟨x, hx⟩ : ∃ x, openN a = x := ⟨_, rfl⟩
  obtain ⟨y, hy⟩ : ∃ y, openN b = y := ⟨_, rfl⟩
  have HX := Lib.hid hx
  have HY := Lib.hid hy
  rw [hx] at o1 o2 zax
  rw [hy] at p1 p2 zbx
  rw [hx, hy]
  clear hx hy ma mb na za
  obtain ⟨xn, xnan, xinf, xe, xs⟩ := x
  obtain ⟨yn, ynan, yinf, ye, ys⟩ := y
  obtain ⟨hx1, hx2, hx3⟩ := openN_ok HX.out
  obtain ⟨hy1, hy2, hy3⟩ := openN_ok HY.out
  have hxn := open_norm HX.out
  have hyn := open_norm HY.out
  dsimp only at *
  subst o1 o2 p1 p2
  unfold addN
  dsimp only
  rw [if_neg (by simp), if_neg (by simp), if_neg (by simp)]
  by_cases hz : xs = 0 ∧ ys = 0
  · rw [if_pos hz, if_pos (show absP a = 0 ∧ absP b = 0 from ⟨zax.1 hz.1, zbx.1 hz.2⟩)]
  · rw [if_neg hz, if_neg (show ¬ (absP a = 0 ∧ absP b = 0) from fun h => hz ⟨zax.2 h.1, zbx.2 h.2⟩)]
    by_cases l : xe < ye
    · rw [if_pos l, core_law hy1 hx1 (by show xe ≤ ye; omega) (hyn rfl rfl) hx2 (fun h => hz ⟨h.2, h.1⟩), sumL_comm]
    · rw [if_neg l, core_law hx1 hy1 (by show ye ≤ xe; omega) (hxn rfl rfl) hy2 hz]
end Go.Proofs.Ytegeadkilolngaa

/- Plain: rounding keeps order; sums with a third one keep it. -/
namespace Go.Proofs.Ytegeadkilolngaa

/-- the bits of the rounded one, without the sign -/
def rb (way : Int) (neg : Bool) (p : Nat) : Nat := rnd way neg p 1 - sgn neg
theorem rnd_form (way : Int) (neg : Bool) (p q : Nat) : ∃ k, rnd way neg p q = sgn neg + k ∧ k ≤ 2139095040 ∧ (cut p q ≤ k ∨ (cut p q = 2139095040 ∧ k = 2139095039 ∧ inw way neg = true)) ∧ (k ≤ cut p q + 1) ∧ (inw way neg = true → k ≤ cut p q) := by
  obtain ⟨h1, h2, h3⟩ := cut_is p q
  unfold rnd rndM
  generalize cut p q = m at *
  by_cases hm : m = 2139095040
  · rw [if_pos hm]
    unfold hugeP
    by_cases hi : inw way neg = true
    · rw [if_pos hi]
      exact ⟨_, rfl, by omega, .inr ⟨hm, rfl, hi⟩, by omega, fun _ => by omega⟩
    · rw [if_neg hi]
      exact ⟨_, rfl, by omega, .inl (by omega), by omega, fun h => absurd h hi⟩
  · rw [if_neg hm]
    split
    · exact ⟨m, rfl, by omega, .inl (Nat.le_refl _), by omega, fun _ => Nat.le_refl _⟩
    · rename_i hi
      have hi' : ¬ inw way neg = true := fun h => hi (.inr h)
      split
      · exact ⟨m + 1, rfl, by omega, .inl (by omega), by omega, fun h => absurd h hi'⟩
      · split
        · exact ⟨m + 1, rfl, by omega, .inl (by omega), by omega, fun h => absurd h hi'⟩
        · exact ⟨m, rfl, by omega, .inl (Nat.le_refl _), by omega, fun _ => Nat.le_refl _⟩
theorem cut_mono {p p' q : Nat} (h : p ≤ p') : cut p q ≤ cut p' q := by
  obtain ⟨h1, h2, h3⟩ := cut_is p q
  obtain ⟨k1, k2, k3⟩ := cut_is p' q
  by_cases hc : cut p q ≤ cut p' q
  · exact hc
  · have := k3 (by omega)
    have h4 := Nat.mul_le_mul_right q (amt_mono (show cut p' q + 1 ≤ cut p q by omega))
    omega
theorem rnd_mono {way : Int} {neg : Bool} {p p' q : Nat} (h : p ≤ p') : rnd way neg p q ≤ rnd way neg p' q := by
  have hm := cut_mono (q := q) h
  by_cases he : cut p q = cut p' q
  · obtain ⟨h1, h2, h3⟩ := cut_is p q
    unfold rnd
    rw [← he]
    obtain ⟨m, hmm⟩ : ∃ m, cut p q = m := ⟨_, rfl⟩
    rw [hmm] at h1 h2 h3 ⊢
    unfold rndM
    by_cases hI : m = 2139095040
    · rw [if_pos hI, if_pos hI]; exact Nat.le_refl _
    · rw [if_neg hI, if_neg hI]
      have hlow : sgn neg + m ≤ (if amt m * q = p' ∨ inw way neg = true then sgn neg + m else if outw way neg = true then sgn neg + (m + 1) else if (amt m + amt (m + 1)) * q < 2 * p' ∨ (amt m + amt (m + 1)) * q = 2 * p' ∧ m % 2 = 1 then sgn neg + (m + 1) else sgn neg + m) := by
        split
        · omega
        · split
          · omega
          · split <;> omega
      by_cases e1 : amt m * q = p ∨ inw way neg = true
      · rw [if_pos e1]; exact hlow
      · rw [if_neg e1]
        by_cases hpp : p = p'
        · subst hpp; rw [if_neg e1]; exact Nat.le_refl _
        · have e2 : ¬ (amt m * q = p' ∨ inw way neg = true) := by
            rintro (e | e)
            · omega
            · exact e1 (.inr e)
          rw [if_neg e2]
          by_cases ho : outw way neg = true
          · rw [if_pos ho, if_pos ho]; exact Nat.le_refl _
          · rw [if_neg ho, if_neg ho]
            by_cases hu : (amt m + amt (m + 1)) * q < 2 * p ∨ (amt m + amt (m + 1)) * q = 2 * p ∧ m % 2 = 1
            · rw [if_pos hu, if_pos (.inl (by omega))]; exact Nat.le_refl _
            · rw [if_neg hu]
              split <;> omega
  · obtain ⟨k, e1, e2, e3, e4, e5⟩ := rnd_form way neg p q
    obtain ⟨l, f1, f2, f3, f4, f5⟩ := rnd_form way neg p' q
    rw [e1, f1]
    rcases f3 with f3 | ⟨f3, f6, f7⟩
    · omega
    · have := e5 f7
      omega
/-- where the rounded one stands -/
theorem place_rnd (way : Int) (neg : Bool) (p q : Nat) : ∃ k : Nat, rnd way neg p q = sgn neg + k ∧ k ≤ 2139095040 ∧ placeP (rnd way neg p q) = (if neg then -(k : Int) else (k : Int)) := by
  obtain ⟨k, e1, e2, -⟩ := rnd_form way neg p q
  refine ⟨k, e1, e2, ?_⟩
  rw [e1]
  unfold placeP sgn
  cases neg
  · simp only [Bool.false_eq_true, if_false, Nat.zero_add]
    rw [if_neg (by omega), Nat.mod_eq_of_lt (by omega)]
  · simp only [if_true]
    rw [if_pos (by omega), show (2147483648 + k) % 2147483648 = k from by omega]
/-- what a float is worth, times 2^149 -/
def val (a : Nat) : Int := if 2147483648 ≤ a then -((amt (absP a) : Nat) : Int) else ((amt (absP a) : Nat) : Int)
theorem val_mono {a b : Nat} (h : placeP a ≤ placeP b) : val a ≤ val b := by
  unfold placeP at h
  unfold val absP
  split at h
  · rename_i h1
    rw [if_pos h1]
    split at h
    · rename_i h2
      rw [if_pos h2]
      have := amt_mono (show b % 2147483648 ≤ a % 2147483648 by omega)
      omega
    · rename_i h2
      rw [if_neg h2]; omega
  · rename_i h1
    rw [if_neg h1]
    split at h
    · rename_i h2
      rw [if_pos h2]
      have e1 : a % 2147483648 = 0 := by omega
      have e2 : b % 2147483648 = 0 := by omega
      rw [e1, e2, amt_zero]; omega
    · rename_i h2
      rw [if_neg h2]
      have := amt_mono (show a % 2147483648 ≤ b % 2147483648 by omega)
      omega
/-- an exact whole number of 2^-149, rounded: where it stands -/
def rsum (way : Int) (s : Int) : Int := if s < 0 then placeP (rnd way true s.natAbs 1) else if s = 0 then 0 else placeP (rnd way false s.natAbs 1)
theorem rsum_mono {way s t : Int} (h : s ≤ t) : rsum way s ≤ rsum way t := by
  unfold rsum
  obtain ⟨k, e1, e2, e3⟩ := place_rnd way true s.natAbs 1
  obtain ⟨k', f1, f2, f3⟩ := place_rnd way false s.natAbs 1
  obtain ⟨l, g1, g2, g3⟩ := place_rnd way true t.natAbs 1
  obtain ⟨l', i1, i2, i3⟩ := place_rnd way false t.natAbs 1
  rw [e3, f3, g3, i3]
  simp only [if_true, Bool.false_eq_true, if_false]
  by_cases hs : s < 0
  · rw [if_pos hs]
    by_cases ht : t < 0
    · rw [if_pos ht]
      have := rnd_mono (way := way) (neg := true) (q := 1) (show t.natAbs ≤ s.natAbs by omega)
      rw [e1, g1] at this
      omega
    · rw [if_neg ht]
      split <;> omega
  · rw [if_neg hs, if_neg (show ¬ t < 0 by omega)]
    by_cases h0 : s = 0
    · rw [if_pos h0]
      split <;> omega
    · rw [if_neg h0, if_neg (show ¬ t = 0 by omega)]
      have := rnd_mono (way := way) (neg := false) (q := 1) (show s.natAbs ≤ t.natAbs by omega)
      rw [f1, i1] at this
      omega
theorem place_sgn (neg : Bool) : placeP (sgn neg) = 0 := by cases neg <;> rfl
/-- where the sum of two finite ones stands -/
theorem place_add (way : Int) {a b : Nat} (hna : nanP a = false) (hia : infP a = false) (hnb : nanP b = false) (hib : infP b = false) :
    placeP (addP way a b) = rsum way (val a + val b) := by
  rw [add_law way hna hia hnb hib]
  by_cases hz : absP a = 0 ∧ absP b = 0
  · rw [if_pos hz]
    have e : val a + val b = 0 := by
      unfold val
      rw [hz.1, hz.2, amt_zero]
      split <;> split <;> rfl
    have e0 : rsum way 0 = 0 := by
      unfold rsum
      rw [if_neg (by omega), if_pos rfl]
    rw [e, e0]
    split
    · have h1 := hz.1
      have h2 := hz.2
      unfold absP at h1 h2
      unfold placeP
      split
      · rw [h1]; rfl
      · rw [h1]; rfl
    · exact place_sgn _
  · rw [if_neg hz]
    have hp : absP a ≠ 0 → 0 < amt (absP a) := fun h => by
      have := amt_smono (show 0 < absP a by omega)
      omega
    have hq : absP b ≠ 0 → 0 < amt (absP b) := fun h => by
      have := amt_smono (show 0 < absP b by omega)
      omega
    have hpq : 0 < amt (absP a) + amt (absP b) := by
      by_cases h : absP a = 0
      · have := hq (fun e => hz ⟨h, e⟩); omega
      · have := hp h; omega
    unfold sumL val rsum
    generalize amt (absP a) = p at *
    generalize amt (absP b) = q at *
    by_cases ha' : 2147483648 ≤ a <;> by_cases hb' : 2147483648 ≤ b
    · rw [decide_eq_true ha', decide_eq_true hb', if_pos rfl, if_pos ha', if_pos hb', if_pos (by omega), show (-(p : Int) + -(q : Int)).natAbs = p + q from by omega]
    · rw [decide_eq_true ha', decide_eq_false hb', if_neg (by decide), if_pos ha', if_neg hb']
      by_cases e : p = q
      · rw [if_pos e, if_neg (by omega), if_pos (by omega)]; exact place_sgn _
      · rw [if_neg e]
        by_cases l : q < p
        · rw [if_pos l, if_pos (by omega), show (-(p : Int) + (q : Int)).natAbs = p - q from by omega]
        · rw [if_neg l, if_neg (by omega), if_neg (by omega), show (-(p : Int) + (q : Int)).natAbs = q - p from by omega]
    · rw [decide_eq_false ha', decide_eq_true hb', if_neg (by decide), if_neg ha', if_pos hb']
      by_cases e : p = q
      · rw [if_pos e, if_neg (by omega), if_pos (by omega)]; exact place_sgn _
      · rw [if_neg e]
        by_cases l : q < p
        · rw [if_pos l, if_neg (by omega), if_neg (by omega), show ((p : Int) + -(q : Int)).natAbs = p - q from by omega]
        · rw [if_neg l, if_pos (by omega), show ((p : Int) + -(q : Int)).natAbs = q - p from by omega]
    · rw [decide_eq_false ha', decide_eq_false hb', if_pos rfl, if_neg ha', if_neg hb', if_neg (by omega), if_neg (by omega), show ((p : Int) + (q : Int)).natAbs = p + q from by omega]
end Go.Proofs.Ytegeadkilolngaa

/- Contracts of Min and Max, and of the document's looks. -/
namespace Go.Proofs.Ytegeadkilolngaa
open Go.RowKit

theorem rabs_any (a : Nat) (w : World) (h : Hid (a < 4294967296)) : Calls Try.prog 16 #[.int .u32 (a : Int)] w fun e w' => e = .returned (.int .u32 (absP a : Int)) ∧ w' = w := by
  have hh := h.out
  have he : (a : Int) % 2147483648 = ((absP a : Nat) : Int) := by unfold absP; omega
  go_enter Try.func16, Try.ntmps16
  go_wp2
  go_ret
  exact ⟨congrArg Ending.returned (congrArg (Value.int .u32) (by first | rfl | exact he)), rfl⟩
theorem rnone_any (a : Nat) (w : World) (h : Hid (a < 4294967296)) : Calls Try.prog 12 #[.int .u32 (a : Int)] w fun e w' => e = .returned (.bool (nanP a)) ∧ w' = w := by
  have hn : decide (2139095040 < ((absP a : Nat) : Int)) = nanP a := by unfold nanP absP; congr 1; apply propext; omega
  go_enter Try.func12, Try.ntmps12
  go_wp2_with fail
  refine (rabs_any a _ h).mono ?_
  rintro e w' ⟨rfl, rfl⟩
  go_wp2
  go_ret
  exact ⟨by first | rfl | rw [← hn]; rfl, rfl⟩
theorem rnone_at {a : Nat} {b : Bool} {w : World} (h : Hid (a < 4294967296)) (hb : Hid (nanP a = b)) : Calls Try.prog 12 #[.int .u32 (a : Int)] w fun e w' => e = .returned (.bool b) ∧ w' = w := by
  have := rnone_any a w h
  rw [hb.out] at this
  exact this
theorem rbelow_any (a : Nat) (w : World) : Calls Try.prog 63 #[.int .u32 (a : Int)] w fun e w' => e = .returned (.bool (decide (2147483648 ≤ a))) ∧ w' = w := by
  have hn : decide (2147483648 ≤ (a : Int)) = decide (2147483648 ≤ a) := by congr 1; apply propext; omega
  go_enter Try.func63, Try.ntmps63
  go_wp2
  go_ret
  exact ⟨by first | rfl | rw [← hn]; rfl, rfl⟩
theorem rbelow_at {a : Nat} {b : Bool} {w : World} (hb : Hid (decide (2147483648 ≤ a) = b)) : Calls Try.prog 63 #[.int .u32 (a : Int)] w fun e w' => e = .returned (.bool b) ∧ w' = w := by
  have := rbelow_any a w
  rw [hb.out] at this
  exact this
theorem rneg_any (a : Nat) (w : World) (h : Hid (a < 4294967296)) : Calls Try.prog 11 #[.int .u32 (a : Int)] w fun e w' => e = .returned (.int .u32 (negP a : Int)) ∧ w' = w := by
  have hh := h.out
  by_cases hl : 2147483648 ≤ a
  · have e1 : ((negP a : Nat) : Int) = (a : Int) - 2147483648 := by unfold negP; rw [if_neg (by omega)]; omega
    have hl' : 2147483648 ≤ (a : Int) := by omega
    go_enter Try.func11, Try.ntmps11
    go_wp2
    go_ret
    exact ⟨by first | rfl | exact congrArg Ending.returned (congrArg (Value.int .u32) e1.symm) | (rw [e1]; rfl), rfl⟩
  · have e1 : ((negP a : Nat) : Int) = (a : Int) + 2147483648 := by unfold negP; rw [if_pos (by omega)]; omega
    have hl' : ¬ 2147483648 ≤ (a : Int) := by omega
    go_enter Try.func11, Try.ntmps11
    go_wp2
    go_ret
    exact ⟨by first | rfl | exact congrArg Ending.returned (congrArg (Value.int .u32) e1.symm) | (rw [e1]; rfl), rfl⟩
theorem rcanon_any (a : Nat) (w : World) (h : Hid (a < 4294967296)) : Calls Try.prog 23 #[.int .u32 (a : Int)] w fun e w' => e = .returned (.int .u32 (canonP a : Int)) ∧ w' = w := by
  cases ha : nanP a
  all_goals
    have HNA := Lib.hid ha
    clear ha
    go_enter Try.func23, Try.ntmps23
    go_wp2_with fail
    refine (rnone_at h HNA).mono ?_
    rintro e w' ⟨rfl, rfl⟩
    go_wp2
    go_ret
  · exact ⟨by rw [show canonP a = a from by unfold canonP; rw [HNA.out]; rfl]; rfl, rfl⟩
  · exact ⟨by rw [show canonP a = 2143289344 from by unfold canonP; rw [HNA.out]; rfl]; rfl, rfl⟩

/-- how two stand -/
def cmpP (a b : Nat) : Int := if placeP a < placeP b then -1 else if placeP b < placeP a then 1 else 0
theorem cmp_lt {a b : Nat} (h : placeP a < placeP b) : cmpP a b = -1 := by unfold cmpP; rw [if_pos h]
theorem cmp_gt {a b : Nat} (h : placeP b < placeP a) : cmpP a b = 1 := by unfold cmpP; rw [if_neg (by omega), if_pos h]
theorem cmp_eq {a b : Nat} (h : placeP a = placeP b) : cmpP a b = 0 := by unfold cmpP; rw [if_neg (by omega), if_neg (by omega)]
set_option maxRecDepth 100000 in
set_option maxHeartbeats 800000 in
theorem compared_no {a b : Nat} {w : World} (h : Hid (a < 4294967296)) (h' : Hid (b < 4294967296)) (hn : nanP a = true ∨ nanP b = true) :
    Calls Try.prog 41 #[.int .u32 (a : Int), .int .u32 (b : Int)] w fun e w' => e = .returned (.tuple #[.int .i64 0, .bool false]) ∧ w' = w := by
  cases ha : nanP a
  · have hb : nanP b = true := by rcases hn with e | e; · rw [ha] at e; cases e
                                  · exact e
    have HNA := Lib.hid ha
    have HNB := Lib.hid hb
    clear ha hb hn
    go_enter Try.func41, Try.ntmps41
    go_wp2_with fail
    refine (rnone_at h HNA).mono ?_
    rintro e w' ⟨rfl, rfl⟩
    go_wp2_with fail
    refine (rnone_at h' HNB).mono ?_
    rintro e w' ⟨rfl, rfl⟩
    go_wp2
    go_ret2
    exact ⟨rfl, rfl⟩
  · have HNA := Lib.hid ha
    clear ha hn
    go_enter Try.func41, Try.ntmps41
    go_wp2_with fail
    refine (rnone_at h HNA).mono ?_
    rintro e w' ⟨rfl, rfl⟩
    go_wp2
    go_ret2
    exact ⟨rfl, rfl⟩
set_option maxRecDepth 100000 in
set_option maxHeartbeats 1600000 in
theorem compared_yes {a b : Nat} {w : World} (h : Hid (a < 4294967296)) (h' : Hid (b < 4294967296)) (HNA : Hid (nanP a = false)) (HNB : Hid (nanP b = false)) :
    Calls Try.prog 41 #[.int .u32 (a : Int), .int .u32 (b : Int)] w fun e w' => e = .returned (.tuple #[.int .i64 (cmpP a b), .bool true]) ∧ w' = w := by
  have la : absP a < 2147483648 := by unfold absP; omega
  have lb : absP b < 2147483648 := by unfold absP; omega
  have HC : Hid (cmpP a b = cmpP a b) := Lib.hid rfl
  have hpa : placeP a = if 2147483648 ≤ a then -((absP a : Nat) : Int) else ((absP a : Nat) : Int) := rfl
  have hpb : placeP b = if 2147483648 ≤ b then -((absP b : Nat) : Int) else ((absP b : Nat) : Int) := rfl
  have HPA := Lib.hid hpa
  have HPB := Lib.hid hpb
  clear hpa hpb
  generalize hva : absP a = va at *
  generalize hvb : absP b = vb at *
  have HVA := Lib.hid hva
  have HVB := Lib.hid hvb
  clear hva hvb
  cases hna : decide (2147483648 ≤ a) <;> cases hnb : decide (2147483648 ≤ b)
  all_goals
    have HA := Lib.hid hna
    have HB := Lib.hid hnb
    clear hna hnb
    have ea : placeP a = (if decide (2147483648 ≤ a) = true then -(va : Int) else (va : Int)) := by rw [HPA.out]; simp
    have eb : placeP b = (if decide (2147483648 ≤ b) = true then -(vb : Int) else (vb : Int)) := by rw [HPB.out]; simp
    rw [HA.out] at ea
    rw [HB.out] at eb
    simp only [if_true, Bool.false_eq_true, if_false] at ea eb
    have EA := Lib.hid ea
    have EB := Lib.hid eb
    clear ea eb
    go_enter Try.func41, Try.ntmps41
    go_wp2_with fail
    refine (rnone_at h HNA).mono ?_
    rintro e w' ⟨rfl, rfl⟩
    go_wp2_with fail
    refine (rnone_at h' HNB).mono ?_
    rintro e w' ⟨rfl, rfl⟩
    go_wp2_with fail
    refine (rabs_any a _ h).mono ?_
    rintro e w' ⟨rfl, rfl⟩
    rw [HVA.out]
    go_wp2_with fail
    refine (rabs_any b _ h').mono ?_
    rintro e w' ⟨rfl, rfl⟩
    rw [HVB.out]
    go_wp2_with fail
    refine (rbelow_at HA).mono ?_
    rintro e w' ⟨rfl, rfl⟩
    go_wp2_with fail
    refine (rbelow_at HB).mono ?_
    rintro e w' ⟨rfl, rfl⟩
    go_wp2
    all_goals
      go_ret2
      refine ⟨?_, rfl⟩
      first
        | (rw [cmp_lt (by rw [EA.out, EB.out]; omega)]; rfl)
        | (rw [cmp_gt (by rw [EA.out, EB.out]; omega)]; rfl)
        | (rw [cmp_eq (by rw [EA.out, EB.out]; omega)]; rfl)
end Go.Proofs.Ytegeadkilolngaa

/- Contracts of Min and Max, of both sides. -/
namespace Go.Proofs.Ytegeadkilolngaa
open Go.RowKit

def minP (a b : Nat) : Nat := if placeP a = placeP b then (if 2147483648 ≤ a then a else b) else if placeP b < placeP a then b else a
def maxP (a b : Nat) : Nat := if placeP a = placeP b then (if 2147483648 ≤ a then b else a) else if placeP a < placeP b then b else a
theorem place_cases {a b : Nat} (ha : a < 4294967296) (hb : b < 4294967296) (h : placeP a = placeP b) : a = b ∨ (a = 0 ∧ b = 2147483648) ∨ (a = 2147483648 ∧ b = 0) := by
  unfold placeP at h
  split at h <;> split at h <;> omega
theorem or_place {a b : Nat} (ha : a < 4294967296) (hb : b < 4294967296) (h : placeP a = placeP b) : bits .or .u32 (a : Int) (b : Int) = (((if 2147483648 ≤ a then a else b) : Nat) : Int) := by
  rcases place_cases ha hb h with rfl | ⟨rfl, rfl⟩ | ⟨rfl, rfl⟩
  · rw [(bits_nat .u32 32 (by decide) wraps_u32 a a (by omega) (by omega)).2, Nat.or_self]
    split <;> rfl
  · rfl
  · rfl
theorem and_place {a b : Nat} (ha : a < 4294967296) (hb : b < 4294967296) (h : placeP a = placeP b) : bits .and .u32 (a : Int) (b : Int) = (((if 2147483648 ≤ a then b else a) : Nat) : Int) := by
  rcases place_cases ha hb h with rfl | ⟨rfl, rfl⟩ | ⟨rfl, rfl⟩
  · rw [(bits_nat .u32 32 (by decide) wraps_u32 a a (by omega) (by omega)).1, Nat.and_self]
    split <;> rfl
  · rfl
  · rfl
theorem equal_at {a b : Nat} {r : Bool} {w : World} (h : Hid (a < 4294967296)) (h' : Hid (b < 4294967296)) (hr : Hid (equalP a b = r)) : Calls Try.prog 69 #[.int .u32 (a : Int), .int .u32 (b : Int)] w fun e w' => e = .returned (.bool r) ∧ w' = w := by
  have := equal_any a b w h.out h'.out
  rw [hr.out] at this
  exact this
theorem less_at {a b : Nat} {r : Bool} {w : World} (h : Hid (a < 4294967296)) (h' : Hid (b < 4294967296)) (hr : Hid (lessP a b = r)) : Calls Try.prog 31 #[.int .u32 (a : Int), .int .u32 (b : Int)] w fun e w' => e = .returned (.bool r) ∧ w' = w := by
  have := less_any a b w h.out h'.out
  rw [hr.out] at this
  exact this
section
variable {a b : Nat} {w : World} (h : Hid (a < 4294967296)) (h' : Hid (b < 4294967296))
include h h'
set_option maxRecDepth 100000 in
theorem min_no (hn : nanP a = true ∨ nanP b = true) : Calls Try.prog 61 #[.int .u32 (a : Int), .int .u32 (b : Int)] w fun e w' => e = .returned (.int .u32 2143289344) ∧ w' = w := by
  cases ha : nanP a
  · have hb : nanP b = true := by
      rcases hn with e | e
      · rw [ha] at e; cases e
      · exact e
    have HNA := Lib.hid ha
    have HNB := Lib.hid hb
    clear ha hb hn
    go_enter Try.func61, Try.ntmps61
    go_wp2_with fail
    refine (nan_at h HNA).mono ?_
    rintro e w' ⟨rfl, rfl⟩
    go_wp2_with fail
    refine (nan_at h' HNB).mono ?_
    rintro e w' ⟨rfl, rfl⟩
    go_wp2
    go_ret
    exact ⟨rfl, rfl⟩
  · have HNA := Lib.hid ha
    clear ha hn
    go_enter Try.func61, Try.ntmps61
    go_wp2_with fail
    refine (nan_at h HNA).mono ?_
    rintro e w' ⟨rfl, rfl⟩
    go_wp2
    go_ret
    exact ⟨rfl, rfl⟩
set_option maxRecDepth 100000 in
theorem max_no (hn : nanP a = true ∨ nanP b = true) : Calls Try.prog 48 #[.int .u32 (a : Int), .int .u32 (b : Int)] w fun e w' => e = .returned (.int .u32 2143289344) ∧ w' = w := by
  cases ha : nanP a
  · have hb : nanP b = true := by
      rcases hn with e | e
      · rw [ha] at e; cases e
      · exact e
    have HNA := Lib.hid ha
    have HNB := Lib.hid hb
    clear ha hb hn
    go_enter Try.func48, Try.ntmps48
    go_wp2_with fail
    refine (nan_at h HNA).mono ?_
    rintro e w' ⟨rfl, rfl⟩
    go_wp2_with fail
    refine (nan_at h' HNB).mono ?_
    rintro e w' ⟨rfl, rfl⟩
    go_wp2
    go_ret
    exact ⟨rfl, rfl⟩
  · have HNA := Lib.hid ha
    clear ha hn
    go_enter Try.func48, Try.ntmps48
    go_wp2_with fail
    refine (nan_at h HNA).mono ?_
    rintro e w' ⟨rfl, rfl⟩
    go_wp2
    go_ret
    exact ⟨rfl, rfl⟩
set_option maxRecDepth 100000 in
theorem min_yes (HNA : Hid (nanP a = false)) (HNB : Hid (nanP b = false)) : Calls Try.prog 61 #[.int .u32 (a : Int), .int .u32 (b : Int)] w fun e w' => e = .returned (.int .u32 (minP a b : Int)) ∧ w' = w := by
  by_cases he : placeP a = placeP b
  · have HE : Hid (equalP a b = true) := Lib.hid (by unfold equalP; rw [HNA.out, HNB.out, decide_eq_true he]; rfl)
    have HR := Lib.hid (or_place h.out h'.out he)
    have HP : Hid (minP a b = _) := Lib.hid (by unfold minP; rw [if_pos he])
    clear he
    go_enter Try.func61, Try.ntmps61
    go_wp2_with fail
    refine (nan_at h HNA).mono ?_
    rintro e w' ⟨rfl, rfl⟩
    go_wp2_with fail
    refine (nan_at h' HNB).mono ?_
    rintro e w' ⟨rfl, rfl⟩
    go_wp2_with fail
    refine (equal_at h h' HE).mono ?_
    rintro e w' ⟨rfl, rfl⟩
    go_wp2
    go_ret
    exact ⟨by rw [HP.out]; exact congrArg Ending.returned (congrArg (Value.int .u32) HR.out), rfl⟩
  · have HE : Hid (equalP a b = false) := Lib.hid (by unfold equalP; rw [HNA.out, HNB.out, decide_eq_false he]; rfl)
    by_cases hl : placeP b < placeP a
    · have HL : Hid (lessP b a = true) := Lib.hid (by unfold lessP; rw [HNA.out, HNB.out, decide_eq_true hl]; rfl)
      have HP : Hid (minP a b = b) := Lib.hid (by unfold minP; rw [if_neg he, if_pos hl])
      clear he hl
      go_enter Try.func61, Try.ntmps61
      go_wp2_with fail
      refine (nan_at h HNA).mono ?_
      rintro e w' ⟨rfl, rfl⟩
      go_wp2_with fail
      refine (nan_at h' HNB).mono ?_
      rintro e w' ⟨rfl, rfl⟩
      go_wp2_with fail
      refine (equal_at h h' HE).mono ?_
      rintro e w' ⟨rfl, rfl⟩
      go_wp2_with fail
      refine (less_at h' h HL).mono ?_
      rintro e w' ⟨rfl, rfl⟩
      go_wp2
      go_ret
      exact ⟨by rw [HP.out]; rfl, rfl⟩
    · have HL : Hid (lessP b a = false) := Lib.hid (by unfold lessP; rw [HNA.out, HNB.out, decide_eq_false hl]; rfl)
      have HP : Hid (minP a b = a) := Lib.hid (by unfold minP; rw [if_neg he, if_neg hl])
      clear he hl
      go_enter Try.func61, Try.ntmps61
      go_wp2_with fail
      refine (nan_at h HNA).mono ?_
      rintro e w' ⟨rfl, rfl⟩
      go_wp2_with fail
      refine (nan_at h' HNB).mono ?_
      rintro e w' ⟨rfl, rfl⟩
      go_wp2_with fail
      refine (equal_at h h' HE).mono ?_
      rintro e w' ⟨rfl, rfl⟩
      go_wp2_with fail
      refine (less_at h' h HL).mono ?_
      rintro e w' ⟨rfl, rfl⟩
      go_wp2
      go_ret
      exact ⟨by rw [HP.out]; rfl, rfl⟩
set_option maxRecDepth 100000 in
theorem max_yes (HNA : Hid (nanP a = false)) (HNB : Hid (nanP b = false)) : Calls Try.prog 48 #[.int .u32 (a : Int), .int .u32 (b : Int)] w fun e w' => e = .returned (.int .u32 (maxP a b : Int)) ∧ w' = w := by
  by_cases he : placeP a = placeP b
  · have HE : Hid (equalP a b = true) := Lib.hid (by unfold equalP; rw [HNA.out, HNB.out, decide_eq_true he]; rfl)
    have HR := Lib.hid (and_place h.out h'.out he)
    have HP : Hid (maxP a b = _) := Lib.hid (by unfold maxP; rw [if_pos he])
    clear he
    go_enter Try.func48, Try.ntmps48
    go_wp2_with fail
    refine (nan_at h HNA).mono ?_
    rintro e w' ⟨rfl, rfl⟩
    go_wp2_with fail
    refine (nan_at h' HNB).mono ?_
    rintro e w' ⟨rfl, rfl⟩
    go_wp2_with fail
    refine (equal_at h h' HE).mono ?_
    rintro e w' ⟨rfl, rfl⟩
    go_wp2
    go_ret
    exact ⟨by rw [HP.out]; exact congrArg Ending.returned (congrArg (Value.int .u32) HR.out), rfl⟩
  · have HE : Hid (equalP a b = false) := Lib.hid (by unfold equalP; rw [HNA.out, HNB.out, decide_eq_false he]; rfl)
    by_cases hl : placeP a < placeP b
    · have HL : Hid (lessP a b = true) := Lib.hid (by unfold lessP; rw [HNA.out, HNB.out, decide_eq_true hl]; rfl)
      have HP : Hid (maxP a b = b) := Lib.hid (by unfold maxP; rw [if_neg he, if_pos hl])
      clear he hl
      go_enter Try.func48, Try.ntmps48
      go_wp2_with fail
      refine (nan_at h HNA).mono ?_
      rintro e w' ⟨rfl, rfl⟩
      go_wp2_with fail
      refine (nan_at h' HNB).mono ?_
      rintro e w' ⟨rfl, rfl⟩
      go_wp2_with fail
      refine (equal_at h h' HE).mono ?_
      rintro e w' ⟨rfl, rfl⟩
      go_wp2_with fail
      refine (less_at h h' HL).mono ?_
      rintro e w' ⟨rfl, rfl⟩
      go_wp2
      go_ret
      exact ⟨by rw [HP.out]; rfl, rfl⟩
    · have HL : Hid (lessP a b = false) := Lib.hid (by unfold lessP; rw [HNA.out, HNB.out, decide_eq_false hl]; rfl)
      have HP : Hid (maxP a b = a) := Lib.hid (by unfold maxP; rw [if_neg he, if_neg hl])
      clear he hl
      go_enter Try.func48, Try.ntmps48
      go_wp2_with fail
      refine (nan_at h HNA).mono ?_
      rintro e w' ⟨rfl, rfl⟩
      go_wp2_with fail
      refine (nan_at h' HNB).mono ?_
      rintro e w' ⟨rfl, rfl⟩
      go_wp2_with fail
      refine (equal_at h h' HE).mono ?_
      rintro e w' ⟨rfl, rfl⟩
      go_wp2_with fail
      refine (less_at h h' HL).mono ?_
      rintro e w' ⟨rfl, rfl⟩
      go_wp2
      go_ret
      exact ⟨by rw [HP.out]; rfl, rfl⟩
set_option maxRecDepth 100000 in
theorem rmin_no (hn : nanP a = true ∨ nanP b = true) : Calls Try.prog 56 #[.int .u32 (a : Int), .int .u32 (b : Int)] w fun e w' => e = .returned (.int .u32 2143289344) ∧ w' = w := by
  go_enter Try.func56, Try.ntmps56
  go_wp2_with fail
  refine (compared_no h h' hn).mono ?_
  rintro e w' ⟨rfl, rfl⟩
  go_wp2
  go_ret
  exact ⟨rfl, rfl⟩
set_option maxRecDepth 100000 in
theorem rmax_no (hn : nanP a = true ∨ nanP b = true) : Calls Try.prog 55 #[.int .u32 (a : Int), .int .u32 (b : Int)] w fun e w' => e = .returned (.int .u32 2143289344) ∧ w' = w := by
  go_enter Try.func55, Try.ntmps55
  go_wp2_with fail
  refine (compared_no h h' hn).mono ?_
  rintro e w' ⟨rfl, rfl⟩
  go_wp2
  go_ret
  exact ⟨rfl, rfl⟩
set_option maxRecDepth 100000 in
theorem rmin_yes (HNA : Hid (nanP a = false)) (HNB : Hid (nanP b = false)) : Calls Try.prog 56 #[.int .u32 (a : Int), .int .u32 (b : Int)] w fun e w' => e = .returned (.int .u32 (minP a b : Int)) ∧ w' = w := by
  by_cases h1 : placeP a < placeP b
  · have HC := Lib.hid (cmp_lt h1)
    have HP : Hid (minP a b = a) := Lib.hid (by unfold minP; rw [if_neg (by omega), if_neg (by omega)])
    clear h1
    go_enter Try.func56, Try.ntmps56
    go_wp2_with fail
    refine (compared_yes h h' HNA HNB).mono ?_
    rintro e w' ⟨rfl, rfl⟩
    rw [HC.out]
    go_wp2
    go_ret
    exact ⟨by rw [HP.out]; rfl, rfl⟩
  by_cases h2 : placeP b < placeP a
  · have HC := Lib.hid (cmp_gt h2)
    have HP : Hid (minP a b = b) := Lib.hid (by unfold minP; rw [if_neg (by omega), if_pos h2])
    clear h1 h2
    go_enter Try.func56, Try.ntmps56
    go_wp2_with fail
    refine (compared_yes h h' HNA HNB).mono ?_
    rintro e w' ⟨rfl, rfl⟩
    rw [HC.out]
    go_wp2
    go_ret
    exact ⟨by rw [HP.out]; rfl, rfl⟩
  have he : placeP a = placeP b := by omega
  have HC := Lib.hid (cmp_eq he)
  by_cases hb : 2147483648 ≤ a
  · have HBL : Hid (decide (2147483648 ≤ a) = true) := Lib.hid (decide_eq_true hb)
    have HP : Hid (minP a b = a) := Lib.hid (by unfold minP; rw [if_pos he, if_pos hb])
    clear h1 h2 he hb
    go_enter Try.func56, Try.ntmps56
    go_wp2_with fail
    refine (compared_yes h h' HNA HNB).mono ?_
    rintro e w' ⟨rfl, rfl⟩
    rw [HC.out]
    go_wp2_with fail
    refine (rbelow_at HBL).mono ?_
    rintro e w' ⟨rfl, rfl⟩
    go_wp2
    go_ret
    exact ⟨by rw [HP.out]; rfl, rfl⟩
  · have HBL : Hid (decide (2147483648 ≤ a) = false) := Lib.hid (decide_eq_false hb)
    have HP : Hid (minP a b = b) := Lib.hid (by unfold minP; rw [if_pos he, if_neg hb])
    clear h1 h2 he hb
    go_enter Try.func56, Try.ntmps56
    go_wp2_with fail
    refine (compared_yes h h' HNA HNB).mono ?_
    rintro e w' ⟨rfl, rfl⟩
    rw [HC.out]
    go_wp2_with fail
    refine (rbelow_at HBL).mono ?_
    rintro e w' ⟨rfl, rfl⟩
    go_wp2
    go_ret
    exact ⟨by rw [HP.out]; rfl, rfl⟩
set_option maxRecDepth 100000 in
theorem rmax_yes (HNA : Hid (nanP a = false)) (HNB : Hid (nanP b = false)) : Calls Try.prog 55 #[.int .u32 (a : Int), .int .u32 (b : Int)] w fun e w' => e = .returned (.int .u32 (maxP a b : Int)) ∧ w' = w := by
  by_cases h1 : placeP a < placeP b
  · have HC := Lib.hid (cmp_lt h1)
    have HP : Hid (maxP a b = b) := Lib.hid (by unfold maxP; rw [if_neg (by omega), if_pos h1])
    clear h1
    go_enter Try.func55, Try.ntmps55
    go_wp2_with fail
    refine (compared_yes h h' HNA HNB).mono ?_
    rintro e w' ⟨rfl, rfl⟩
    rw [HC.out]
    go_wp2
    go_ret
    exact ⟨by rw [HP.out]; rfl, rfl⟩
  by_cases h2 : placeP b < placeP a
  · have HC := Lib.hid (cmp_gt h2)
    have HP : Hid (maxP a b = a) := Lib.hid (by unfold maxP; rw [if_neg (by omega), if_neg (by omega)])
    clear h1 h2
    go_enter Try.func55, Try.ntmps55
    go_wp2_with fail
    refine (compared_yes h h' HNA HNB).mono ?_
    rintro e w' ⟨rfl, rfl⟩
    rw [HC.out]
    go_wp2
    go_ret
    exact ⟨by rw [HP.out]; rfl, rfl⟩
  have he : placeP a = placeP b := by omega
  have HC := Lib.hid (cmp_eq he)
  by_cases hb : 2147483648 ≤ a
  · have HBL : Hid (decide (2147483648 ≤ a) = true) := Lib.hid (decide_eq_true hb)
    have HP : Hid (maxP a b = b) := Lib.hid (by unfold maxP; rw [if_pos he, if_pos hb])
    clear h1 h2 he hb
    go_enter Try.func55, Try.ntmps55
    go_wp2_with fail
    refine (compared_yes h h' HNA HNB).mono ?_
    rintro e w' ⟨rfl, rfl⟩
    rw [HC.out]
    go_wp2_with fail
    refine (rbelow_at HBL).mono ?_
    rintro e w' ⟨rfl, rfl⟩
    go_wp2
    go_ret
    exact ⟨by rw [HP.out]; rfl, rfl⟩
  · have HBL : Hid (decide (2147483648 ≤ a) = false) := Lib.hid (decide_eq_false hb)
    have HP : Hid (maxP a b = a) := Lib.hid (by unfold maxP; rw [if_pos he, if_neg hb])
    clear h1 h2 he hb
    go_enter Try.func55, Try.ntmps55
    go_wp2_with fail
    refine (compared_yes h h' HNA HNB).mono ?_
    rintro e w' ⟨rfl, rfl⟩
    rw [HC.out]
    go_wp2_with fail
    refine (rbelow_at HBL).mono ?_
    rintro e w' ⟨rfl, rfl⟩
    go_wp2
    go_ret
    exact ⟨by rw [HP.out]; rfl, rfl⟩
end
end Go.Proofs.Ytegeadkilolngaa

/- Plain: whole numbers of any length as words of 32 bits, the lowest first. -/
namespace Go.Proofs.Ytegeadkilolngaa

/-- what words are worth -/
def wv : List Nat → Nat
  | [] => 0
  | d :: l => d + 4294967296 * wv l
/-- words of 32 bits -/
def Wd (l : List Nat) : Prop := ∀ d ∈ l, d < 4294967296
/-- no nought at the end -/
def Trim (l : List Nat) : Prop := ∀ h : l ≠ [], l.getLast h ≠ 0
theorem wv_append (a b : List Nat) : wv (a ++ b) = wv a + 4294967296 ^ a.length * wv b := by
  induction a with
  | nil => simp [wv]
  | cons d a ih =>
    simp only [List.cons_append, wv, ih, List.length_cons, Nat.pow_succ]
    rw [Nat.mul_add, Nat.add_assoc, ← Nat.mul_assoc, Nat.mul_comm (4294967296 ^ a.length) 4294967296]
theorem wv_lt {l : List Nat} (h : Wd l) : wv l < 4294967296 ^ l.length := by
  induction l with
  | nil => simp [wv]
  | cons d l ih =>
    have h1 := h d (by simp)
    have h2 := ih (fun x hx => h x (by simp [hx]))
    simp only [wv, List.length_cons, Nat.pow_succ]
    have h3 : 4294967296 * (wv l + 1) ≤ 4294967296 * 4294967296 ^ l.length := Nat.mul_le_mul_left _ h2
    rw [Nat.mul_comm (4294967296 ^ l.length)]
    rw [Nat.mul_add, Nat.mul_one] at h3
    omega
theorem wv_zero {l : List Nat} (h : ∀ d ∈ l, d = 0) : wv l = 0 := by
  induction l with
  | nil => rfl
  | cons d l ih =>
    simp only [wv]
    rw [h d (by simp), ih (fun x hx => h x (by simp [hx]))]
theorem trim_pos {l : List Nat} (h : Trim l) (hn : l ≠ []) : 4294967296 ^ (l.length - 1) ≤ wv l := by
  have e := List.dropLast_concat_getLast hn
  have h1 := h hn
  have hl : l.dropLast.length = l.length - 1 := by simp
  rw [← hl]
  conv => rhs; rw [← e]
  rw [wv_append]
  have : 4294967296 ^ l.dropLast.length * 1 ≤ 4294967296 ^ l.dropLast.length * wv [l.getLast hn] := Nat.mul_le_mul_left _ (by simp only [wv]; omega)
  omega
theorem trim_nil {l : List Nat} (h : Trim l) : wv l = 0 ↔ l = [] := by
  constructor
  · intro e
    by_cases hn : l = []
    · exact hn
    · have := trim_pos h hn
      have := Nat.pow_pos (n := l.length - 1) (show 0 < 4294967296 by omega)
      omega
  · rintro rfl; rfl
/-- of unlike lengths -/
theorem trim_len {a b : List Nat} (ha : Wd a) (hb : Trim b) (h : a.length < b.length) : wv a < wv b := by
  have hn : b ≠ [] := by rintro rfl; simp at h
  have h1 := wv_lt ha
  have h2 := trim_pos hb hn
  have h3 : 4294967296 ^ a.length ≤ 4294967296 ^ (b.length - 1) := Nat.pow_le_pow_right (by omega) (by omega)
  omega
/-- of one length: the highest word that parts them -/
theorem wv_take {l : List Nat} {k : Nat} (h : k < l.length) : wv (l.take (k + 1)) = wv (l.take k) + 4294967296 ^ k * l[k] := by
  rw [List.take_succ_eq_append_getElem h, wv_append]
  simp only [wv, List.length_take]
  rw [Nat.min_eq_left (by omega)]
  rfl
theorem wv_drop {l : List Nat} {k : Nat} (h : k < l.length) : wv (l.drop k) = l[k] + 4294967296 * wv (l.drop (k + 1)) := by
  rw [List.drop_eq_getElem_cons h]; rfl
/-- the same words from k on, and one that is less below: less -/
theorem wv_less {a b : List Nat} {k : Nat} (ha : Wd a) (hka : k < a.length) (hkb : k < b.length) (he : a.drop (k + 1) = b.drop (k + 1)) (h : a[k] < b[k]) : wv a < wv b := by
  have e1 : wv a = wv (a.take k) + 4294967296 ^ k * wv (a.drop k) := by
    conv => lhs; rw [← List.take_append_drop k a]
    rw [wv_append, List.length_take, Nat.min_eq_left (by omega)]
  have e2 : wv b = wv (b.take k) + 4294967296 ^ k * wv (b.drop k) := by
    conv => lhs; rw [← List.take_append_drop k b]
    rw [wv_append, List.length_take, Nat.min_eq_left (by omega)]
  have h1 := wv_lt (l := a.take k) (fun d hd => ha d (List.mem_of_mem_take hd))
  rw [List.length_take, Nat.min_eq_left (by omega)] at h1
  rw [e1, e2, wv_drop hka, wv_drop hkb, he]
  have h2 : 4294967296 ^ k * (a[k] + 4294967296 * wv (b.drop (k + 1)) + 1) ≤ 4294967296 ^ k * (b[k] + 4294967296 * wv (b.drop (k + 1))) := Nat.mul_le_mul_left _ (by omega)
  rw [Nat.mul_add, Nat.mul_one] at h2
  omega
/-- noughts at the end are worth nothing -/
theorem wv_trim {l : List Nat} {n : Nat} (h : ∀ d ∈ l.drop n, d = 0) : wv (l.take n) = wv l := by
  conv => rhs; rw [← List.take_append_drop n l]
  rw [wv_append, wv_zero h, Nat.mul_zero, Nat.add_zero]
end Go.Proofs.Ytegeadkilolngaa

/- The document's whole numbers in memory, and the contract of trim. -/
namespace Go.Proofs.Ytegeadkilolngaa
open Go.RowKit

def nums (l : List Nat) : List Value := l.map fun (x : Nat) => .int .u32 (x : Int)
theorem nums_len (l : List Nat) : (nums l).length = l.length := by simp [nums]
/-- words that are read -/
def WR (w : World) (B : Nat) (A : Option Addr) (l : List Nat) : Prop := Reads w B 1 A l.length (nums l)
section
variable {w w' : World} {B B' : Nat} {A : Option Addr} {l : List Nat}
theorem WR.at_ {k : Nat} (h : WR w B A l) (hk : k < l.length) : ∃ b off, A = some ⟨b, off, none⟩ ∧ b < B ∧ w.cell? ⟨b, off + k, none⟩ = some (.int .u32 (l[k] : Int)) := by
  obtain ⟨ad, u, h1, h2, h3, h4⟩ := Reads.at_ (k := k) h hk
  obtain ⟨ad', u', h1', _, _, h4'⟩ := Reads.at_ (k := 0) h (by omega)
  rw [h1] at h1'
  obtain rfl := Option.some.inj h1'
  have h5 : (nums l)[k]? = some (.int .u32 (l[k] : Int)) := by simp [nums, hk]
  rw [h5] at h3
  obtain rfl := Option.some.inj h3
  obtain ⟨b, off, spot⟩ := ad
  have hspot : spot = none := by simpa [Addr.add] using World.cell?_spot h4'
  subst hspot
  rw [Addr.add_lit] at h4
  exact ⟨b, off, h1, h2, h4⟩
theorem WR.more (h : WR w B A l) (hB : B ≤ B') : WR w B' A l := Reads.more h hB
theorem WR.below (h : WR w B A l) (hb : Below B w w') : WR w' B A l := Reads.below h hb
theorem WR.take (h : WR w B A l) {n : Nat} (hn : n ≤ l.length) : WR w B A (l.take n) := by
  refine ⟨by rw [nums_len]; omega, fun h0 => ?_⟩
  have hl : 0 < l.length := by rw [List.length_take] at h0; omega
  obtain ⟨ad, e, hb, hc⟩ := h.2 hl
  refine ⟨ad, e, hb, fun j u hu => hc j u ?_⟩
  simp only [nums, List.map_take, List.getElem?_take] at hu ⊢
  split at hu
  · exact hu
  · cases hu
end
theorem Reads.new_ (w : World) (e : TypeId) (cs : List Value) (size n : Nat) (h : cs.length = n * size) : Reads (w.alloc (.cells cs.toArray e)) (w.heap.size + 1) size (some ⟨w.heap.size, 0, none⟩) n cs := by
  refine ⟨h, fun _ => ⟨_, rfl, by simp, fun j u hu => ?_⟩⟩
  rw [Addr.add_lit, Nat.zero_add, cell_of_row _ w.heap.size j cs.toArray e (0, 0) (heap_alloc_new w _)]
  simpa using hu

theorem size_nat (w : World) : (sizeOf (Try.prog.elem 68)).run Try.prog w = .ok 1 w := by kernel_rfl
theorem und_nat : Try.prog.underlying 68 = some (.slice (Try.prog.elem 68)) := by kernel_rfl
theorem run_nat_to (w : World) (a : Option Addr) (len cap : Nat) (kh : IntKind) (h : Int) (h0 : 0 ≤ h) (h2 : h ≤ cap) :
    (Instr.slice 68 (.slice a len cap) none (some (.int kh h)) none).run Try.prog w = .ok (.slice a h.toNat cap) w := by
  rw [run_slice_h w _ a len cap und_nat kh h h0 h2, size_nat]
  have hz : (a.map fun x => x.add 0) = a := by cases a <;> simp [Addr.add]
  by_cases hc : cap = 0
  · simp [Result.andThen, sliced, hc]
  · simp [Result.andThen, sliced, hc, hz]
attribute [local go_sem high] run_nat_to
def TRrel (l : List Nat) (w : World) (i : Value) (wr : World) : Prop := ∃ k : Nat, i = .int .i64 (k : Int) ∧ k ≤ l.length ∧ (∀ d ∈ l.drop k, d = 0) ∧ wr = w
theorem trim_done {l : List Nat} {k : Nat} (h : k ≤ l.length) (hk : k = 0 ∨ ∃ h' : k - 1 < l.length, l[k - 1] ≠ 0) : Trim (l.take k) := by
  intro hne
  rcases hk with rfl | ⟨h1, h2⟩
  · simp at hne
  · have hk0 : k ≠ 0 := by rintro rfl; simp at hne
    rw [List.getLast_eq_getElem]
    simp only [List.length_take, List.getElem_take, Nat.min_eq_left h]
    exact h2

set_option maxRecDepth 100000 in
set_option maxHeartbeats 800000 in
theorem trim_any {A : Option Addr} {cap n B : Nat} {l : List Nat} {w : World} (hn : Hid (n = l.length)) (hcap : n ≤ cap) (hm : cap ≤ maxLen) (hr : WR w B A l) :
    Calls Try.prog 96 #[.slice A n cap] w fun e w' => ∃ k, e = .returned (.slice A k cap) ∧ k ≤ l.length ∧ (∀ d ∈ l.drop k, d = 0) ∧ Trim (l.take k) ∧ w' = w := by
  have hn' := hn.out
  subst hn'
  unfold maxLen at hm
  go_enter Try.func96, Try.ntmps96
  go_wp2
  go_loopw [3] (fun i wr => TRrel l w i wr) (fun i _ => (intOf i).toNat)
  case atStart => exact ⟨l.length, rfl, Nat.le_refl _, by simp, rfl⟩
  case round =>
    obtain ⟨k, rfl, hk, hz, rfl⟩ := hrel
    by_cases h0 : k = 0
    · subst h0
      have HT := Lib.hid (trim_done hk (.inl rfl))
      have HZ := Lib.hid hz
      clear hz
      go_wp2
      go_ret
      exact ⟨0, rfl, hk, HZ.out, HT.out, rfl⟩
    · have hlt : k - 1 < l.length := by omega
      obtain ⟨b, off, rfl, -, a0⟩ := hr.at_ hlt
      have hk1 : IntKind.i64.wrap ((k : Int) - 1) = ((k - 1 : Nat) : Int) := by rw [IntWalk.i64_in _ (by omega)]; omega
      have hk2 : (k : Int) - 1 = ((k - 1 : Nat) : Int) := by omega
      have hk3 : ((k - 1 : Nat) : Int) < (l.length : Int) := by omega
      have hk4 : (0 : Int) < (k : Int) := by omega
      by_cases hd : l[k - 1] = 0
      · have HZ : Hid (∀ d ∈ l.drop (k - 1), d = 0) := Lib.hid (by
          intro d hd'
          rw [List.drop_eq_getElem_cons hlt, show k - 1 + 1 = k from by omega] at hd'
          rcases List.mem_cons.1 hd' with e | e
          · rw [e]; exact hd
          · exact hz d e)
        clear hz
        rw [hd] at a0
        go_wp2
        go_roundw
        case rel => exact ⟨k - 1, by go_num, by omega, HZ.out, rfl⟩
        case measure => simp [intOf]; omega
      · have HT := Lib.hid (trim_done hk (.inr ⟨hlt, hd⟩))
        have HZ := Lib.hid hz
        have hd' : ((l[k - 1] : Int) == 0) = false := by rw [beq_eq_false_iff_ne]; omega
        clear hz
        generalize l[k - 1] = x at *
        go_wp2
        go_ret
        exact ⟨k, rfl, hk, HZ.out, HT.out, rfl⟩
end Go.Proofs.Ytegeadkilolngaa

/- The contract of the document's Of. -/
namespace Go.Proofs.Ytegeadkilolngaa
open Go.RowKit

/-- a whole number that a call answers -/
def NO (w : World) (v : Nat) (e : Ending) (w' : World) : Prop :=
  ∃ A k c l, e = .returned (.slice A k c) ∧ Hid (k = l.length) ∧ k ≤ c ∧ c ≤ maxLen ∧ WR w' w'.heap.size A l ∧ Wd l ∧ Trim l ∧ wv l = v ∧ Below w.heap.size w w'
theorem NO.mk {w w' : World} {A : Option Addr} {k c v : Nat} {l : List Nat} (hk : k ≤ l.length) (hc : k ≤ c) (hm : c ≤ maxLen) (hz : ∀ d ∈ l.drop k, d = 0) (ht : Trim (l.take k)) (hr : WR w' w'.heap.size A l) (hw : Wd l) (hv : wv l = v) (hb : Below w.heap.size w w') :
    NO w v (.returned (.slice A k c)) w' :=
  ⟨A, k, c, l.take k, rfl, Lib.hid (by rw [List.length_take]; omega), hc, hm, hr.take hk, fun d hd => hw d (List.mem_of_mem_take hd), ht, by rw [wv_trim hz, hv], hb⟩
set_option maxRecDepth 100000 in
theorem of_any (n : Nat) (w : World) (h : Hid (n < 18446744073709551616)) : Calls Try.prog 86 #[.int .u64 (n : Int)] w (NO w n) := by
  obtain ⟨lo, hlo⟩ : ∃ x, n % 4294967296 = x := ⟨_, rfl⟩
  obtain ⟨hi, hhi⟩ : ∃ x, n / 4294967296 = x := ⟨_, rfl⟩
  have hl : lo < 4294967296 := by omega
  have hh : hi < 4294967296 := by have := h.out; omega
  have hv : Hid (wv [lo, hi] = n) := Lib.hid (by simp only [wv]; omega)
  have e1 : (n : Int) % 4294967296 = (lo : Int) := by omega
  have e2 : (n : Int) / 4294967296 = (hi : Int) := by omega
  clear hlo hhi
  go_enter Try.func86, Try.ntmps86
  go_wp2_with fail
  refine (trim_any (n := 2) (cap := 2) (l := [lo, hi]) (Lib.hid rfl) (Nat.le_refl _) (by decide) (Reads.new_ w 22 (nums [lo, hi]) 1 2 rfl)).mono ?_
  rintro e w' ⟨k, rfl, hk, hz, ht, rfl⟩
  have hk2 : k ≤ 2 := hk
  go_wp2
  go_ret
  refine NO.mk (l := [lo, hi]) hk hk2 (by decide) hz ht ((Reads.new_ w 22 (nums [lo, hi]) 1 2 rfl).more (by simp)) ?_ hv.out ((Below.refl w.heap.size w).alloc (Nat.le_refl _) _)
  intro d hd
  simp at hd
  omega
end Go.Proofs.Ytegeadkilolngaa

/- The contract of the document's Compare. -/
namespace Go.Proofs.Ytegeadkilolngaa
open Go.RowKit

def cmpV (x y : Nat) : Int := if x < y then -1 else if y < x then 1 else 0
theorem cmpV_lt {x y : Nat} (h : x < y) : cmpV x y = -1 := by unfold cmpV; rw [if_pos h]
theorem cmpV_gt {x y : Nat} (h : y < x) : cmpV x y = 1 := by unfold cmpV; rw [if_neg (by omega), if_pos h]
theorem cmpV_eq (x : Nat) : cmpV x x = 0 := by unfold cmpV; rw [if_neg (Nat.lt_irrefl _), if_neg (Nat.lt_irrefl _)]
def CMrel (a b : List Nat) (w : World) (i : Value) (wr : World) : Prop := ∃ k m : Nat, i = .int .i64 ((k : Int) - 1) ∧ k ≤ a.length ∧ a.drop k = b.drop k ∧ wr = w.drewN m

set_option maxRecDepth 100000 in
set_option maxHeartbeats 1600000 in
theorem compare_any {A A' : Option Addr} {n n' cap cap' B B' : Nat} {a b : List Nat} {w : World} (hn : Hid (n = a.length)) (hn' : Hid (n' = b.length)) (hm : n ≤ 9223372036854775807) (hm' : n' ≤ 9223372036854775807) (ha : WR w B A a) (hb : WR w B' A' b) (wa : Wd a) (wb : Wd b) (ta : Trim a) (tb : Trim b) :
    Calls Try.prog 87 #[.slice A n cap, .slice A' n' cap'] w fun e w' => e = .returned (.int .i64 (cmpV (wv a) (wv b))) ∧ ∃ m, w' = w.drewN m := by
  by_cases hlt : n < n'
  · have HR := Lib.hid (cmpV_lt (trim_len wa tb (by rw [← hn.out, ← hn'.out]; exact hlt)))
    have h1 : ((n : Int) != (n' : Int)) = true := by rw [bne_iff_ne]; omega
    have h2 : (n : Int) < (n' : Int) := by omega
    go_enter Try.func87, Try.ntmps87
    go_wp2
    go_ret
    exact ⟨by rw [HR.out]; rfl, 0, rfl⟩
  by_cases hgt : n' < n
  · have HR := Lib.hid (cmpV_gt (trim_len wb ta (by rw [← hn.out, ← hn'.out]; exact hgt)))
    have h1 : ((n : Int) != (n' : Int)) = true := by rw [bne_iff_ne]; omega
    have h2 : ¬ (n : Int) < (n' : Int) := by omega
    go_enter Try.func87, Try.ntmps87
    go_wp2
    go_ret
    exact ⟨by rw [HR.out]; rfl, 0, rfl⟩
  obtain rfl : n = n' := by omega
  have hlen : a.length = b.length := by rw [← hn.out, ← hn'.out]
  have h1 : ((n : Int) != (n : Int)) = false := by simp
  clear hlt hgt hm'
  have HLEN := Lib.hid hlen
  clear hlen
  go_enter Try.func87, Try.ntmps87
  go_wp2
  go_loopw [5] (fun i wr => CMrel a b w i wr) (fun i _ => (intOf i + 1).toNat)
  case atStart => exact ⟨n, 0, by go_num, by rw [hn.out]; exact Nat.le_refl _, by rw [hn.out, List.drop_length, HLEN.out, List.drop_length], rfl⟩
  case round =>
    obtain ⟨k, m, rfl, hk, he, rfl⟩ := hrel
    have HE := Lib.hid he
    clear he
    have hkn : k ≤ n := by rw [hn.out]; exact hk
    by_cases h0 : k = 0
    · subst h0
      have HR : Hid (cmpV (wv a) (wv b) = 0) := Lib.hid (by
        have : a = b := by simpa using HE.out
        rw [this]; exact cmpV_eq _)
      go_wp2
      go_ret
      exact ⟨by rw [HR.out]; rfl, m, rfl⟩
    · have hka : k - 1 < a.length := by omega
      have hkb : k - 1 < b.length := by rw [← HLEN.out]; exact hka
      obtain ⟨ba, oa, rfl, -, a0⟩ := ha.at_ hka
      obtain ⟨bb, ob, rfl, -, b0⟩ := hb.at_ hkb
      have hk2 : (k : Int) - 1 = ((k - 1 : Nat) : Int) := by omega
      have hk3 : ((k - 1 : Nat) : Int) < (n : Int) := by omega
      rw [hk2]
      have hsub : IntKind.i64.wrap (((k - 1 : Nat) : Int) - 1) = ((k - 1 : Nat) : Int) - 1 := IntWalk.i64_in _ (by omega)
      have HL : Hid (a[k - 1] < b[k - 1] → cmpV (wv a) (wv b) = -1) := Lib.hid fun h => cmpV_lt (wv_less wa hka hkb (by rw [show k - 1 + 1 = k from by omega]; exact HE.out) h)
      have HG : Hid (b[k - 1] < a[k - 1] → cmpV (wv a) (wv b) = 1) := Lib.hid fun h => cmpV_gt (wv_less wb hkb hka (by rw [show k - 1 + 1 = k from by omega]; exact HE.out.symm) h)
      have HQ : Hid (a[k - 1] = b[k - 1] → a.drop (k - 1) = b.drop (k - 1)) := Lib.hid fun h => by
        rw [List.drop_eq_getElem_cons hka, List.drop_eq_getElem_cons hkb, h, show k - 1 + 1 = k from by omega, HE.out]
      have hka' : k - 1 ≤ a.length := by omega
      generalize a[k - 1] = x at *
      generalize b[k - 1] = y at *
      clear hka hkb
      by_cases hxy : x < y
      · have c1 : (x : Int) < (y : Int) := by omega
        go_wp2
        go_quiet (fail)
        go_wp2
        go_ret
        exact ⟨by rw [HL.out hxy]; rfl, _, World.drewN_drewN _ _ _⟩
      · by_cases hyx : y < x
        · have c1 : ¬ (x : Int) < (y : Int) := by omega
          have c2 : (y : Int) < (x : Int) := by omega
          go_wp2
          go_quiet (fail)
          go_wp2
          go_quiet (fail)
          go_wp2
          go_ret
          exact ⟨by rw [HG.out hyx]; rfl, _, (World.drewN_drewN _ _ _).trans (World.drewN_drewN _ _ _)⟩
        · have c1 : ¬ (x : Int) < (y : Int) := by omega
          have c2 : ¬ (y : Int) < (x : Int) := by omega
          have hxe : x = y := by omega
          go_wp2
          go_quiet (fail)
          go_wp2
          go_quiet (fail)
          go_wp2
          go_roundw
          case rel => exact ⟨k - 1, _, by go_num, hka', HQ.out hxe, rfl⟩
          case measure => simp [intOf] <;> omega
end Go.Proofs.Ytegeadkilolngaa

/- Words appended to a row of the call's own. -/
namespace Go.Proofs.Ytegeadkilolngaa
open Go.RowKit

theorem info_32 : (Try.prog.info? 22).map (fun i => (i.zero, i.size, i.bytes)) = some (some (.int .u32 0), 1, 4) := by kernel_rfl
/-- a row of words of the call's own -/
def ON (w : World) (base : Nat) (v : Value) (l : List Nat) : Prop := w.ownsRow base 22 1 v l.length (nums l)
theorem nums_append (a b : List Nat) : nums (a ++ b) = nums a ++ nums b := List.map_append
theorem ON.nil (w : World) (base : Nat) : ON w base (.slice none 0 0) [] := World.ownsRow_nil w base _ _
theorem ON.alloc {w : World} {base : Nat} {v : Value} {l : List Nat} (h : ON w base v l) (o : Obj) : ON (w.alloc o) base v l := World.ownsRow.alloc h o
theorem ON.form {w : World} {base : Nat} {v : Value} {l : List Nat} (h : ON w base v l) : ∃ A n cap, v = .slice A n cap ∧ Hid (n = l.length) ∧ n ≤ cap ∧ cap ≤ maxLen ∧ WR w w.heap.size A l := by
  have h0 := h
  rcases h.2 with ⟨rfl, hn⟩ | ⟨g, cap, cur, rfl, hb, hg, hnc, hcm, hcs, htake⟩
  · refine ⟨none, 0, 0, rfl, Lib.hid (by omega), by omega, by unfold maxLen; omega, ?_⟩
    rw [List.eq_nil_of_length_eq_zero hn]
    exact Reads.none_
  · exact ⟨_, _, cap, rfl, Lib.hid rfl, hnc, hcm, Reads.of_own h0⟩
theorem ON.grownB {w w' : World} {v : Value} {base : Nat} {l : List Nat} (hown : ON w base v l) (hg : w.grownBy w' v.ownBlock) (hbase : base ≤ w.heap.size) {a : World} {B : Nat} (hB : B ≤ base) (hb : Below B a w) : Below B a w' :=
  hb.grown hg (by omega) (fun k hk => by have := (World.ownsRow.lt hown k hk).1; omega)
theorem append_word
    {ops : Array Oper} {rest : List Oper} {o : Oper} {a : Act} {Q : Exit → Act → World → Prop} {w : World} (hgd : o.guard = none) (s x : Operand)
    (ho : o.op = .call { callee := .builtin .append, args := #[s, x], argTypes := #[68, 68] }) {base : Nat} {v : Value} {l : List Nat} (hown : ON w base v l) (hs : a.eval s = v)
    {n : Int} {g : Nat} (hx : a.eval x = .slice (some ⟨g, 0, none⟩) 1 1) (hgs : g = w.heap.size) (c : Nat) (hc : n = (c : Int)) (hlen : l.length + 1 ≤ 17592186044416) (hbase : base ≤ w.heap.size)
    (h : ∀ v' w', ON w' base v' (l ++ [c]) → w.grownBy w' v.ownBlock → (v'.ownBlock = v.ownBlock ∨ ∃ g, v'.ownBlock = some g ∧ w.heap.size ≤ g) → wpList Try.prog ops Q rest (a.put o.dst v') w') :
    wpList Try.prog ops Q (o :: rest) a (w.alloc (.cells #[.int .u32 n] 22)) := by
  obtain ⟨i0, hi0, hz0, hz1, hz2⟩ := info_parts info_32
  subst hc hgs
  refine wpList_append_any _ hgd s x 68 ho base 22 i0 (.int .u32 0) 1 4 (by kernel_rfl) hi0 hz0 hz1 hz2 rfl (by omega) v l.length (nums l) hs (hown.alloc _) (w.heap.size + 1) _ 1 1
    [.int .u32 c] hx (Reads.new_ w _ _ 1 1 rfl) (by intro u hu; simp at hu; subst hu; rfl) (by unfold maxLen; omega) (fit_small (by have := Nat.mul_le_mul_left (l.length + 1) (show 4 ≤ 8 by decide); omega)) (by simp; omega) ?_
  intro v' w' hown' hg hat
  refine h v' w' ?_ ((World.grownBy_alloc w _ _).trans hg) ?_
  · unfold ON
    rw [nums_append, List.length_append]
    exact hown'
  · rcases hat with e | e
    · exact .inl e
    · exact .inr ⟨_, e, by simp⟩
end Go.Proofs.Ytegeadkilolngaa

/- The contract of the document's Twice: times two to the k. -/
namespace Go.Proofs.Ytegeadkilolngaa
open Go.RowKit

def bs (n : Nat) : Nat := 4294967296 ^ n
theorem bs_succ (n : Nat) : bs (n + 1) = bs n * 4294967296 := Nat.pow_succ ..
theorem bs_add (a b : Nat) : bs (a + b) = bs a * bs b := Nat.pow_add ..
theorem bs_two (n : Nat) : bs n = two (32 * n) := by
  unfold bs two
  rw [Nat.pow_mul]
theorem wv_snoc (l : List Nat) (d : Nat) : wv (l ++ [d]) = wv l + bs l.length * d := by
  rw [wv_append]; simp only [wv]; rfl
theorem wv_rep (n : Nat) : wv (List.replicate n 0) = 0 := wv_zero fun d h => by simpa using (List.eq_of_mem_replicate h)
/-- one round of Twice -/
theorem twice_step {l a : List Nat} {q j k r c : Nat} (hk : k = 32 * q + r) (hl : l.length = q + j) (hj : j < a.length) (h : wv l + bs (q + j) * c = two k * wv (a.take j)) :
    wv (l ++ [(a[j] * two r + c) % 4294967296]) + bs (q + (j + 1)) * ((a[j] * two r + c) / 4294967296) = two k * wv (a.take (j + 1)) := by
  rw [wv_snoc, hl, wv_take hj, Nat.mul_add, ← h, show q + (j + 1) = q + j + 1 from rfl, bs_succ, Nat.add_assoc, Nat.mul_assoc, ← Nat.mul_add, Nat.mod_add_div]
  have e : two k * (4294967296 ^ j * a[j]) = bs (q + j) * (a[j] * two r) := by
    rw [hk, two_add, ← bs_two, bs_add]
    show bs q * two r * (bs j * a[j]) = bs q * bs j * (a[j] * two r)
    generalize bs q = x; generalize two r = y; generalize bs j = z; generalize a[j] = t
    rw [Nat.mul_assoc, Nat.mul_assoc, Nat.mul_comm y, Nat.mul_assoc]
  rw [e, Nat.mul_add]
  omega
def TW1 (q : Nat) (w : World) (out i : Value) (wr : World) : Prop := ∃ j : Nat, i = .int .i64 (j : Int) ∧ j ≤ q ∧ ON wr w.heap.size out (List.replicate j 0) ∧ Below w.heap.size w wr
def TW2 (a : List Nat) (q k : Nat) (w : World) (out cv i : Value) (wr : World) : Prop := ∃ (j c : Nat) (l : List Nat), i = .int .i64 (j : Int) ∧ j ≤ a.length ∧ cv = .int .u64 (c : Int) ∧ c < 4294967296 ∧ ON wr w.heap.size out l ∧ l.length = q + j ∧ Hid (Wd l) ∧ Hid (wv l + bs (q + j) * c = two k * wv (a.take j)) ∧ Below w.heap.size w wr

set_option maxRecDepth 100000 in
set_option maxHeartbeats 1600000 in
theorem twice_any {A : Option Addr} {n cap k B : Nat} {a : List Nat} {w : World} (hn : Hid (n = a.length)) (hs : n ≤ 1000000) (hk : k ≤ 1000000) (hB : B ≤ w.heap.size) (ha : WR w B A a) (wa : Hid (Wd a)) :
    Calls Try.prog 85 #[.slice A n cap, .int .i64 (k : Int)] w (NO w (two k * wv a)) := by
  obtain ⟨q, hq⟩ : ∃ q, k / 32 = q := ⟨_, rfl⟩
  obtain ⟨r, hr⟩ : ∃ r, k % 32 = r := ⟨_, rfl⟩
  have hkq : Hid (k = 32 * q + r) := Lib.hid (by omega)
  have e1 : (k : Int) / 32 = (q : Int) := by omega
  have e2 : (k : Int) % 32 = (r : Int) := by omega
  have hr32 : r < 32 := by omega
  have hq2 : q ≤ 1000000 := by omega
  clear hq hr
  go_enter Try.func85, Try.ntmps85
  go_wp2
  go_loopw [5, 6] (fun out i wr => TW1 q w out i wr) (fun _ i _ => q - (intOf i).toNat)
  case atStart => exact ⟨0, rfl, Nat.zero_le _, ON.nil _ _, Below.refl _ _⟩
  case round =>
    obtain ⟨j, rfl, hj, hown, hbel⟩ := hrel
    have hsz := hbel.size
    by_cases hlt : j < q
    · have hlt' : (j : Int) < (q : Int) := by omega
      go_wp2_with (at_builtin
                   go_must (refine append_word rfl _ _ rfl hown rfl rfl rfl 0 rfl (by simp; omega) hsz ?_; intro v2 w2 ho2 hg2 ha2))
      go_roundw
      case rel => exact ⟨j + 1, by go_num, by omega, by rw [List.replicate_succ']; exact ho2, hown.grownB hg2 hsz (Nat.le_refl _) hbel⟩
      case measure => simp [intOf]; omega
    · have hjq : j = q := by omega
      subst hjq
      have hlt' : ¬ (j : Int) < (j : Int) := by omega
      go_wp2
      go_loopw [5, 7, 8] (fun out cv i wr => TW2 a j k w out cv i wr) (fun _ _ i _ => n - (intOf i).toNat)
      case atStart => exact ⟨0, 0, _, rfl, Nat.zero_le _, rfl, by omega, hown, by simp, Lib.hid (fun d hd => by rw [List.eq_of_mem_replicate hd]; omega), Lib.hid (by simp [wv_rep, wv]), hbel⟩
      case round =>
        clear hown hbel hsz
        obtain ⟨i, c, l, rfl, hi, rfl, hc, hown, hll, HW, HV, hbel⟩ := hrel
        have hsz := hbel.size
        by_cases hin : i < n
        · have hia : i < a.length := by rw [← hn.out]; exact hin
          obtain ⟨b, off, rfl, hbb, a0'⟩ := ha.at_ hia
          have a0 := (hbel.cell (p := ⟨b, _, none⟩) (by show b < w.heap.size; omega)).trans a0'
          clear a0'
          have HS := Lib.hid (twice_step hkq.out hll hia HV.out)
          have hx : a[i] < 4294967296 := wa.out _ (List.getElem_mem hia)
          have hin' : (i : Int) < (n : Int) := by omega
          have ht := two_le (show r ≤ 31 by omega)
          have e31 : two 31 = 2147483648 := rfl
          rw [e31] at ht
          have hi1 : i + 1 ≤ a.length := hia
          generalize a[i] = x at *
          have hxr : x * two r ≤ 4294967295 * 2147483648 := Nat.mul_le_mul (by omega) ht
          have hsh : IntKind.u64.wrap ((x : Int) * 2 ^ r) = ((x * two r : Nat) : Int) := by
            rw [two_cast, ← Int.natCast_mul, wrap64_nat (by omega)]
          generalize x * two r = X at *
          go_wp2_with (at_builtin
                       go_must (refine append_word rfl _ _ rfl hown rfl rfl rfl ((X + c) % 4294967296) (by simp) (by omega) hsz ?_; intro v2 w2 ho2 hg2 ha2))
          go_roundw
          case rel => exact ⟨i + 1, (X + c) / 4294967296, _, by go_num, hi1, by simp, by omega, ho2, by simp; omega, Lib.hid (fun d hd => by
            rcases List.mem_append.1 hd with e | e
            · exact HW.out d e
            · simp at e; omega), HS, hown.grownB hg2 hsz (Nat.le_refl _) hbel⟩
          case measure => simp [intOf]; omega
        · have hin' : ¬ (i : Int) < (n : Int) := by omega
          have hii : i = a.length := by have := hn.out; omega
          have hin2 : i ≤ n := by rw [hn.out]; exact hi
          have HV2 : Hid (wv (l ++ [c]) = two k * wv a) := Lib.hid (by rw [wv_snoc, hll, HV.out, hii, List.take_length])
          go_wp2_with (at_builtin
                       go_must (refine append_word rfl _ _ rfl hown rfl rfl rfl c (by first | rfl | simp) (by omega) hsz ?_; intro v2 w2 ho2 hg2 ha2)
                       obtain ⟨A2, n2, c2, rfl, hn2, hl2, hm2, hr2⟩ := ho2.form)
          have hb2 := hown.grownB hg2 hsz (Nat.le_refl _) hbel
          refine (trim_any hn2 hl2 hm2 hr2).mono ?_
          rintro e w' ⟨k', rfl, hk', hz, ht, rfl⟩
          go_wp2
          go_ret
          exact NO.mk hk' (by have := hn2.out; omega) hm2 hz ht hr2 (fun d hd => by
            rcases List.mem_append.1 hd with e | e
            · exact HW.out d e
            · simp at e; omega) HV2.out hb2
end Go.Proofs.Ytegeadkilolngaa

/- The contract of the document's Amount. -/
namespace Go.Proofs.Ytegeadkilolngaa
open Go.RowKit

theorem NO.after {w w1 w' : World} {v : Nat} {e : Ending} (hb : Below w.heap.size w w1) (h : NO w1 v e w') : NO w v e w' := by
  obtain ⟨A, k, c, l, h1, h2, h3, h4, h5, h6, h7, h8, h9⟩ := h
  exact ⟨A, k, c, l, h1, h2, h3, h4, h5, h6, h7, h8, hb.trans (h9.mono hb.size)⟩
theorem of_at {n v : Nat} {w : World} (h : Hid (n < 18446744073709551616)) (hv : n = v) : Calls Try.prog 86 #[.int .u64 (n : Int)] w (NO w v) := by
  subst hv; exact of_any n w h
set_option maxRecDepth 100000 in
set_option maxHeartbeats 800000 in
theorem amount_any (m : Nat) (w : World) (h : m < 4294967296) : Calls Try.prog 84 #[.int .u32 (m : Int)] w (NO w (amt m)) := by
  obtain ⟨e, he⟩ : ∃ x, m / 8388608 = x := ⟨_, rfl⟩
  obtain ⟨f, hf⟩ : ∃ x, m % 8388608 = x := ⟨_, rfl⟩
  have hf1 : f < 8388608 := by omega
  have he1 : e < 512 := by omega
  have e1 : (m : Int) / 8388608 = (e : Int) := by omega
  have e2 : (m : Int) % 8388608 = (f : Int) := by omega
  by_cases h0 : e = 0
  · subst h0
    have HA : Hid (f = amt m) := Lib.hid (by unfold amt; rw [if_pos he]; omega)
    clear he hf h
    go_enter Try.func84, Try.ntmps84
    go_wp2_with fail
    refine (of_at (Lib.hid (by omega)) HA.out).mono ?_
    rintro e w1 ⟨A1, k1, c1, l1, rfl, r⟩
    go_wp2
    go_ret
    exact ⟨A1, k1, c1, l1, rfl, r⟩
  · have HA : Hid (two (e - 1) * (8388608 + f) = amt m) := Lib.hid (by unfold amt; rw [if_neg (by omega), he, hf, Nat.mul_comm])
    have h0' : ((e : Int) == 0) = false := by rw [beq_eq_false_iff_ne]; omega
    have hk : (e : Int) - 1 = ((e - 1 : Nat) : Int) := by omega
    clear he hf h
    go_enter Try.func84, Try.ntmps84
    go_wp2_with fail
    have hcast : (8388608 : Int) + (f : Int) = ((8388608 + f : Nat) : Int) := by omega
    rw [hcast]
    clear hcast
    refine (of_any (8388608 + f) _ (Lib.hid (by omega))).mono ?_
    rintro e' w1 ⟨A1, k1, c1, l1, rfl, hk1, hc1, hm1, hr1, hw1, ht1, hv1, hb1⟩
    have hlen : k1 ≤ 1000000 := by
      by_cases hl : l1 = []
      · have := hk1.out; rw [hl] at this; simp at this; omega
      · have h3 := trim_pos ht1 hl
        rw [hv1] at h3
        have := hk1.out
        by_cases h4 : l1.length ≤ 2
        · omega
        · have h5 : 4294967296 ^ 1 ≤ 4294967296 ^ (l1.length - 1) := Nat.pow_le_pow_right (by omega) (by omega)
          omega
    have HW := Lib.hid hw1
    have HV := Lib.hid hv1
    clear hw1 hv1 ht1 hc1 hm1
    go_wp2_with fail
    refine (twice_any hk1 hlen (by omega) (Nat.le_refl _) hr1 HW).mono ?_
    rw [HV.out, HA.out]
    rintro e' w2 h2
    obtain ⟨A2, k2, c2, l2, rfl, r⟩ := NO.after hb1 h2
    go_wp2
    go_ret
    exact ⟨A2, k2, c2, l2, rfl, r⟩
end Go.Proofs.Ytegeadkilolngaa

/- The contract of the document's Plus. -/
namespace Go.Proofs.Ytegeadkilolngaa
open Go.RowKit

theorem take_in {a : List Nat} {i : Nat} (h : i < a.length) : wv (a.take (i + 1)) = wv (a.take i) + bs i * a[i] := wv_take h
theorem take_out {a : List Nat} {i : Nat} (h : a.length ≤ i) : wv (a.take (i + 1)) = wv (a.take i) + bs i * 0 := by
  rw [List.take_of_length_le h, List.take_of_length_le (by omega)]; rfl
theorem plus_step {l a b : List Nat} {i c x y : Nat} (hl : l.length = i) (hx : wv (a.take (i + 1)) = wv (a.take i) + bs i * x) (hy : wv (b.take (i + 1)) = wv (b.take i) + bs i * y) (h : wv l + bs i * c = wv (a.take i) + wv (b.take i)) :
    wv (l ++ [(c + x + y) % 4294967296]) + bs (i + 1) * ((c + x + y) / 4294967296) = wv (a.take (i + 1)) + wv (b.take (i + 1)) := by
  rw [wv_snoc, hl, hx, hy, bs_succ, Nat.add_assoc, Nat.mul_assoc, ← Nat.mul_add, Nat.mod_add_div, Nat.mul_add, Nat.mul_add]
  omega
def PLrel (a b : List Nat) (n n' : Nat) (w : World) (out cv i : Value) (wr : World) : Prop := ∃ (j c : Nat) (l : List Nat), i = .int .i64 (j : Int) ∧ cv = .int .u64 (c : Int) ∧ c ≤ 1 ∧ (j ≤ max n n' ∨ (j = max n n' + 1 ∧ c = 0)) ∧ ON wr w.heap.size out l ∧ l.length = j ∧ Hid (Wd l) ∧ Hid (wv l + bs j * c = wv (a.take j) + wv (b.take j)) ∧ Below w.heap.size w wr

set_option maxRecDepth 100000 in
set_option maxHeartbeats 1600000 in
theorem plus_any {A A' : Option Addr} {n n' cap cap' B B' : Nat} {a b : List Nat} {w : World} (hn : Hid (n = a.length)) (hn' : Hid (n' = b.length)) (hs : n ≤ 1000000) (hs' : n' ≤ 1000000) (hB : B ≤ w.heap.size) (hB' : B' ≤ w.heap.size) (ha : WR w B A a) (hb : WR w B' A' b) (wa : Hid (Wd a)) (wb : Hid (Wd b)) :
    Calls Try.prog 99 #[.slice A n cap, .slice A' n' cap'] w (NO w (wv a + wv b)) := by
  go_enter Try.func99, Try.ntmps99
  go_wp2
  go_loopw [5, 6, 7] (fun out cv i wr => PLrel a b n n' w out cv i wr) (fun _ _ i _ => max n n' + 2 - (intOf i).toNat)
  case atStart => exact ⟨0, 0, [], rfl, rfl, by omega, .inl (Nat.zero_le _), ON.nil _ _, rfl, Lib.hid (fun d h => by simp at h), Lib.hid (by simp [wv]), Below.refl _ _⟩
  case round =>
    obtain ⟨i, c, l, rfl, rfl, hc, hi, hown, hll, HW, HV, hbel⟩ := hrel
    have hsz := hbel.size
    by_cases h1 : i < n
    · by_cases h2 : i < n'
      · obtain ⟨ba, oa, rfl, hba, a0'⟩ := ha.at_ (show i < a.length by rw [← hn.out]; exact h1)
        have a0 := (hbel.cell (p := ⟨ba, _, none⟩) (by show ba < w.heap.size; omega)).trans a0'
        clear a0'
        have hx : a[i]'(by rw [← hn.out]; exact h1) < 4294967296 := wa.out _ (List.getElem_mem _)
        have HX := Lib.hid (take_in (a := a) (show i < a.length by rw [← hn.out]; exact h1))
        generalize a[i]'(by rw [← hn.out]; exact h1) = x at *
        have h1' : (i : Int) < (n : Int) := by omega
        obtain ⟨bb, ob, rfl, hbb, b0'⟩ := hb.at_ (show i < b.length by rw [← hn'.out]; exact h2)
        have b0 := (hbel.cell (p := ⟨bb, _, none⟩) (by show bb < w.heap.size; omega)).trans b0'
        clear b0'
        have hy : b[i]'(by rw [← hn'.out]; exact h2) < 4294967296 := wb.out _ (List.getElem_mem _)
        have HY := Lib.hid (take_in (a := b) (show i < b.length by rw [← hn'.out]; exact h2))
        generalize b[i]'(by rw [← hn'.out]; exact h2) = y at *
        have h2' : (i : Int) < (n' : Int) := by omega
        have HS := Lib.hid (plus_step (x := x) (y := y) hll HX.out HY.out HV.out)
        clear HX HY
        go_wp2_with (at_builtin
                     go_must (refine append_word rfl _ _ rfl hown rfl rfl rfl ((c + x + y) % 4294967296) (by simp) (by omega) hsz ?_; intro v2 w2 ho2 hg2 ha2))
        go_roundw
        case rel => exact ⟨i + 1, (c + x + y) / 4294967296, _, by go_num, by simp, by omega, by omega, ho2, by simp; omega, Lib.hid (fun d hd => by
          rcases List.mem_append.1 hd with e | e
          · exact HW.out d e
          · simp at e; omega), Lib.hid (by simpa using HS.out), hown.grownB hg2 hsz (Nat.le_refl _) hbel⟩
        case measure => simp [intOf]; omega
      · obtain ⟨ba, oa, rfl, hba, a0'⟩ := ha.at_ (show i < a.length by rw [← hn.out]; exact h1)
        have a0 := (hbel.cell (p := ⟨ba, _, none⟩) (by show ba < w.heap.size; omega)).trans a0'
        clear a0'
        have hx : a[i]'(by rw [← hn.out]; exact h1) < 4294967296 := wa.out _ (List.getElem_mem _)
        have HX := Lib.hid (take_in (a := a) (show i < a.length by rw [← hn.out]; exact h1))
        generalize a[i]'(by rw [← hn.out]; exact h1) = x at *
        have h1' : (i : Int) < (n : Int) := by omega
        have HY := Lib.hid (take_out (a := b) (show b.length ≤ i by rw [← hn'.out]; omega))
        have h2' : ¬ (i : Int) < (n' : Int) := by omega
        have HS := Lib.hid (plus_step (x := x) (y := 0) hll HX.out HY.out HV.out)
        clear HX HY
        go_wp2_with (at_builtin
                     go_must (refine append_word rfl _ _ rfl hown rfl rfl rfl ((c + x) % 4294967296) (by simp) (by omega) hsz ?_; intro v2 w2 ho2 hg2 ha2))
        go_roundw
        case rel => exact ⟨i + 1, (c + x) / 4294967296, _, by go_num, by simp, by omega, by omega, ho2, by simp; omega, Lib.hid (fun d hd => by
          rcases List.mem_append.1 hd with e | e
          · exact HW.out d e
          · simp at e; omega), Lib.hid (by simpa using HS.out), hown.grownB hg2 hsz (Nat.le_refl _) hbel⟩
        case measure => simp [intOf]; omega
    · by_cases h2 : i < n'
      · have HX := Lib.hid (take_out (a := a) (show a.length ≤ i by rw [← hn.out]; omega))
        have h1' : ¬ (i : Int) < (n : Int) := by omega
        obtain ⟨bb, ob, rfl, hbb, b0'⟩ := hb.at_ (show i < b.length by rw [← hn'.out]; exact h2)
        have b0 := (hbel.cell (p := ⟨bb, _, none⟩) (by show bb < w.heap.size; omega)).trans b0'
        clear b0'
        have hy : b[i]'(by rw [← hn'.out]; exact h2) < 4294967296 := wb.out _ (List.getElem_mem _)
        have HY := Lib.hid (take_in (a := b) (show i < b.length by rw [← hn'.out]; exact h2))
        generalize b[i]'(by rw [← hn'.out]; exact h2) = y at *
        have h2' : (i : Int) < (n' : Int) := by omega
        have HS := Lib.hid (plus_step (x := 0) (y := y) hll HX.out HY.out HV.out)
        clear HX HY
        go_wp2_with (at_builtin
                     go_must (refine append_word rfl _ _ rfl hown rfl rfl rfl ((c + y) % 4294967296) (by simp) (by omega) hsz ?_; intro v2 w2 ho2 hg2 ha2))
        go_roundw
        case rel => exact ⟨i + 1, (c + y) / 4294967296, _, by go_num, by simp, by omega, by omega, ho2, by simp; omega, Lib.hid (fun d hd => by
          rcases List.mem_append.1 hd with e | e
          · exact HW.out d e
          · simp at e; omega), Lib.hid (by simpa using HS.out), hown.grownB hg2 hsz (Nat.le_refl _) hbel⟩
        case measure => simp [intOf]; omega
      · by_cases h3 : 0 < c
        · have HX := Lib.hid (take_out (a := a) (show a.length ≤ i by rw [← hn.out]; omega))
          have h1' : ¬ (i : Int) < (n : Int) := by omega
          have HY := Lib.hid (take_out (a := b) (show b.length ≤ i by rw [← hn'.out]; omega))
          have h2' : ¬ (i : Int) < (n' : Int) := by omega
          have HS := Lib.hid (plus_step (x := 0) (y := 0) hll HX.out HY.out HV.out)
          have h3' : (0 : Int) < (c : Int) := by omega
          clear HX HY
          go_wp2_with (at_builtin
                       go_must (refine append_word rfl _ _ rfl hown rfl rfl rfl ((c) % 4294967296) (by simp) (by omega) hsz ?_; intro v2 w2 ho2 hg2 ha2))
          go_roundw
          case rel => exact ⟨i + 1, (c) / 4294967296, _, by go_num, by simp, by omega, by omega, ho2, by simp; omega, Lib.hid (fun d hd => by
            rcases List.mem_append.1 hd with e | e
            · exact HW.out d e
            · simp at e; omega), Lib.hid (by simpa using HS.out), hown.grownB hg2 hsz (Nat.le_refl _) hbel⟩
          case measure => simp [intOf]; omega
        · have hc0 : c = 0 := by omega
          subst hc0
          have HF : Hid (wv l = wv a + wv b) := Lib.hid (by
            have := HV.out
            rw [Nat.mul_zero, Nat.add_zero, List.take_of_length_le (by rw [← hn.out]; omega), List.take_of_length_le (by rw [← hn'.out]; omega)] at this
            exact this)
          have h1' : ¬ (i : Int) < (n : Int) := by omega
          have h2' : ¬ (i : Int) < (n' : Int) := by omega
          obtain ⟨A2, n2, c2, rfl, hn2, hl2, hm2, hr2⟩ := hown.form
          go_wp2_with fail
          refine (trim_any hn2 hl2 hm2 hr2).mono ?_
          rintro e w' ⟨k', rfl, hk', hz, ht, rfl⟩
          go_wp2
          go_ret
          exact NO.mk hk' (by have := hn2.out; omega) hm2 hz ht hr2 HW.out HF.out hbel
end Go.Proofs.Ytegeadkilolngaa

/- The contract of the document's Minus. -/
namespace Go.Proofs.Ytegeadkilolngaa
open Go.RowKit

theorem minus_step {l a b : List Nat} {i c x y d e : Nat} (hl : l.length = i) (hx : wv (a.take (i + 1)) = wv (a.take i) + bs i * x) (hy : wv (b.take (i + 1)) = wv (b.take i) + bs i * y) (h : wv l + wv (b.take i) = wv (a.take i) + bs i * c) (hd : d + (c + y) = x + 4294967296 * e) :
    wv (l ++ [d]) + wv (b.take (i + 1)) = wv (a.take (i + 1)) + bs (i + 1) * e := by
  rw [wv_snoc, hl, hx, hy, bs_succ, Nat.mul_assoc]
  have := congrArg (bs i * ·) hd
  simp only [Nat.mul_add] at this
  omega
def MNrel (a b : List Nat) (w : World) (out cv i : Value) (wr : World) : Prop := ∃ (j c : Nat) (l : List Nat), i = .int .i64 (j : Int) ∧ j ≤ a.length ∧ cv = .int .u64 (c : Int) ∧ c ≤ 1 ∧ ON wr w.heap.size out l ∧ l.length = j ∧ Hid (Wd l) ∧ Hid (wv l + wv (b.take j) = wv (a.take j) + bs j * c) ∧ Below w.heap.size w wr

set_option maxRecDepth 100000 in
set_option maxHeartbeats 1600000 in
theorem minus_any {A A' : Option Addr} {n n' cap cap' B B' : Nat} {a b : List Nat} {w : World} (hn : Hid (n = a.length)) (hn' : Hid (n' = b.length)) (hs : n ≤ 1000000) (hle : n' ≤ n) (hB : B ≤ w.heap.size) (hB' : B' ≤ w.heap.size) (ha : WR w B A a) (hb : WR w B' A' b) (wa : Hid (Wd a)) (wb : Hid (Wd b)) (hab : Hid (wv b ≤ wv a)) :
    Calls Try.prog 101 #[.slice A n cap, .slice A' n' cap'] w (NO w (wv a - wv b)) := by
  go_enter Try.func101, Try.ntmps101
  go_wp2
  go_loopw [5, 6, 7] (fun out cv i wr => MNrel a b w out cv i wr) (fun _ _ i _ => n - (intOf i).toNat)
  case atStart => exact ⟨0, 0, [], rfl, Nat.zero_le _, rfl, by omega, ON.nil _ _, rfl, Lib.hid (fun d h => by simp at h), Lib.hid (by simp [wv]), Below.refl _ _⟩
  case round =>
    obtain ⟨i, c, l, rfl, hi, rfl, hc, hown, hll, HW, HV, hbel⟩ := hrel
    have hsz := hbel.size
    by_cases h1 : i < n
    · have hia : i < a.length := by rw [← hn.out]; exact h1
      obtain ⟨ba, oa, rfl, hba, a0'⟩ := ha.at_ hia
      have a0 := (hbel.cell (p := ⟨ba, _, none⟩) (by show ba < w.heap.size; omega)).trans a0'
      clear a0'
      have hx : a[i] < 4294967296 := wa.out _ (List.getElem_mem hia)
      have HX := Lib.hid (take_in hia)
      have hia2 : i + 1 ≤ a.length := hia
      generalize a[i] = x at *
      clear hia
      have h1' : (i : Int) < (n : Int) := by omega
      by_cases h2 : i < n'
      · have hib : i < b.length := by rw [← hn'.out]; exact h2
        obtain ⟨bb, ob, rfl, hbb, b0'⟩ := hb.at_ hib
        have b0 := (hbel.cell (p := ⟨bb, _, none⟩) (by show bb < w.heap.size; omega)).trans b0'
        clear b0'
        have hy : b[i] < 4294967296 := wb.out _ (List.getElem_mem hib)
        have HY := Lib.hid (take_in hib)
        generalize b[i] = y at *
        clear hib
        have h2' : (i : Int) < (n' : Int) := by omega
        by_cases h3 : x < c + y
        · have h33 := h3
          have hlt : (x : Int) < (c : Int) + (y : Int) := by omega
          have HS := Lib.hid (minus_step (x := x) (y := y) (d := x + 4294967296 - (c + y)) (e := 1) hll HX.out HY.out HV.out (by omega))
          clear HX HY
          go_wp2_with (at_builtin
                       go_must (refine append_word rfl _ _ rfl hown rfl rfl rfl (x + 4294967296 - (c + y)) (by omega) (by omega) hsz ?_; intro v2 w2 ho2 hg2 ha2))
          go_roundw
          case rel => exact ⟨i + 1, 1, _, by go_num, by omega, by first | rfl | simp, by omega, ho2, by simp; omega, Lib.hid (fun d hd => by
            rcases List.mem_append.1 hd with e | e
            · exact HW.out d e
            · simp at e; omega), HS, hown.grownB hg2 hsz (Nat.le_refl _) hbel⟩
          case measure => simp [intOf]; omega
        · have h33 := h3
          have hlt : ¬ (x : Int) < (c : Int) + (y : Int) := by omega
          have HS := Lib.hid (minus_step (x := x) (y := y) (d := x - (c + y)) (e := 0) hll HX.out HY.out HV.out (by omega))
          clear HX HY
          go_wp2_with (at_builtin
                       go_must (refine append_word rfl _ _ rfl hown rfl rfl rfl (x - (c + y)) (by omega) (by omega) hsz ?_; intro v2 w2 ho2 hg2 ha2))
          go_roundw
          case rel => exact ⟨i + 1, 0, _, by go_num, by omega, by first | rfl | simp, by omega, ho2, by simp; omega, Lib.hid (fun d hd => by
            rcases List.mem_append.1 hd with e | e
            · exact HW.out d e
            · simp at e; omega), HS, hown.grownB hg2 hsz (Nat.le_refl _) hbel⟩
          case measure => simp [intOf]; omega
      · have HY := Lib.hid (take_out (a := b) (show b.length ≤ i by rw [← hn'.out]; omega))
        have h2' : ¬ (i : Int) < (n' : Int) := by omega
        by_cases h3 : x < c
        · have h33 := h3
          have hlt : (x : Int) < (c : Int) := by omega
          have HS := Lib.hid (minus_step (x := x) (y := 0) (d := x + 4294967296 - (c)) (e := 1) hll HX.out HY.out HV.out (by omega))
          clear HX HY
          go_wp2_with (at_builtin
                       go_must (refine append_word rfl _ _ rfl hown rfl rfl rfl (x + 4294967296 - (c)) (by omega) (by omega) hsz ?_; intro v2 w2 ho2 hg2 ha2))
          go_roundw
          case rel => exact ⟨i + 1, 1, _, by go_num, by omega, by first | rfl | simp, by omega, ho2, by simp; omega, Lib.hid (fun d hd => by
            rcases List.mem_append.1 hd with e | e
            · exact HW.out d e
            · simp at e; omega), HS, hown.grownB hg2 hsz (Nat.le_refl _) hbel⟩
          case measure => simp [intOf]; omega
        · have h33 := h3
          have hlt : ¬ (x : Int) < (c : Int) := by omega
          have HS := Lib.hid (minus_step (x := x) (y := 0) (d := x - (c)) (e := 0) hll HX.out HY.out HV.out (by omega))
          clear HX HY
          go_wp2_with (at_builtin
                       go_must (refine append_word rfl _ _ rfl hown rfl rfl rfl (x - (c)) (by omega) (by omega) hsz ?_; intro v2 w2 ho2 hg2 ha2))
          go_roundw
          case rel => exact ⟨i + 1, 0, _, by go_num, by omega, by first | rfl | simp, by omega, ho2, by simp; omega, Lib.hid (fun d hd => by
            rcases List.mem_append.1 hd with e | e
            · exact HW.out d e
            · simp at e; omega), HS, hown.grownB hg2 hsz (Nat.le_refl _) hbel⟩
          case measure => simp [intOf]; omega
    · have hii : i = a.length := by have := hn.out; omega
      have HF : Hid (wv l = wv a - wv b) := Lib.hid (by
        have h4 := HV.out
        rw [hii, List.take_length, List.take_of_length_le (by rw [← hn'.out, ← hn.out]; exact hle)] at h4
        have h5 := wv_lt HW.out
        have h6 := hab.out
        have h7 : c = 0 := by
          by_cases hc0 : c = 0
          · exact hc0
          · obtain rfl : c = 1 := by omega
            rw [hll, hii] at h5
            have e : bs a.length = 4294967296 ^ a.length := rfl
            rw [Nat.mul_one, e] at h4
            omega
        rw [h7] at h4
        omega)
      have h1' : ¬ (i : Int) < (n : Int) := by omega
      obtain ⟨A2, n2, c2, rfl, hn2, hl2, hm2, hr2⟩ := hown.form
      go_wp2_with fail
      refine (trim_any hn2 hl2 hm2 hr2).mono ?_
      rintro e w' ⟨k', rfl, hk', hz, ht, rfl⟩
      go_wp2
      go_ret
      exact NO.mk hk' (by have := hn2.out; omega) hm2 hz ht hr2 HW.out HF.out hbel
end Go.Proofs.Ytegeadkilolngaa

/- Plain: the steps of the document's Times. -/
namespace Go.Proofs.Ytegeadkilolngaa

theorem wv_set {l : List Nat} {j d : Nat} (h : j < l.length) : wv (l.set j d) + bs j * l[j] = wv l + bs j * d := by
  have e0 : l = l.take j ++ (l[j] :: l.drop (j + 1)) := by rw [← List.drop_eq_getElem_cons h, List.take_append_drop]
  have e1 : l.set j d = l.take j ++ (d :: l.drop (j + 1)) := by rw [List.set_eq_take_append_cons_drop, if_pos h]
  have f0 : wv l = wv (l.take j) + bs j * (l[j] + 4294967296 * wv (l.drop (j + 1))) := by
    conv => lhs; rw [e0]
    rw [wv_append, List.length_take, Nat.min_eq_left (by omega)]; rfl
  have f1 : wv (l.set j d) = wv (l.take j) + bs j * (d + 4294967296 * wv (l.drop (j + 1))) := by
    rw [e1, wv_append, List.length_take, Nat.min_eq_left (by omega)]; rfl
  rw [f0, f1, Nat.mul_add, Nat.mul_add]
  omega
/-- one round of the inner loop -/
theorem times_step {o : List Nat} {j x y c v : Nat} (h : j < o.length) (hv : wv o + bs j * c = v) :
    wv (o.set j ((x * y + o[j] + c) % 4294967296)) + bs (j + 1) * ((x * y + o[j] + c) / 4294967296) = v + bs j * (x * y) := by
  have h1 := wv_set (d := (x * y + o[j] + c) % 4294967296) h
  rw [bs_succ, Nat.mul_assoc]
  have h2 := Nat.mod_add_div (x * y + o[j] + c) 4294967296
  have h3 := congrArg (bs j * ·) h2
  simp only [Nat.mul_add] at h3
  omega
theorem times_big {x y z c : Nat} (hx : x < 4294967296) (hy : y < 4294967296) (hz : z < 4294967296) (hc : c < 4294967296) : x * y + z + c < 18446744073709551616 := by
  have := Nat.mul_le_mul (show x ≤ 4294967295 by omega) (show y ≤ 4294967295 by omega)
  omega
end Go.Proofs.Ytegeadkilolngaa

/- Words written into a row of the call's own. -/
namespace Go.Proofs.Ytegeadkilolngaa
open Go.RowKit

theorem ON.set {w : World} {base g n cap : Nat} {l : List Nat} (ho : ON w base (.slice (some ⟨g, 0, none⟩) n cap) l) (k c : Nat) :
    ON (w.setCell ⟨g, k, none⟩ (.int .u32 (c : Int))) base (.slice (some ⟨g, 0, none⟩) n cap) (l.set k c) := by
  obtain ⟨h1, h2⟩ := ho
  refine ⟨by rw [nums_len, List.length_set]; omega, ?_⟩
  rcases h2 with ⟨h, _⟩ | ⟨g', cap', cur, hv, hb, hg, hnc, hcm, hcs, htake⟩
  · cases h
  · injection hv with e1 e2 e3
    simp only [Option.some.injEq, Addr.mk.injEq, and_true] at e1
    subst e1 e3
    refine .inr ⟨g, cap, cur.setIfInBounds k (.int .u32 (c : Int)), by rw [List.length_set, e2], hb, (Blk.set_ (w := w) (g := g) hg k _), by rw [List.length_set]; exact hnc, hcm, by simpa using hcs, ?_⟩
    rw [List.length_set, Array.toList_setIfInBounds, List.take_set, htake]
    simp [nums, List.map_set]
theorem ON.at_ {w : World} {base n c : Nat} {A : Option Addr} {l : List Nat} (h : ON w base (.slice A n c) l) {k : Nat} (hk : k < l.length) :
    ∃ gd, A = some ⟨gd, 0, none⟩ ∧ base ≤ gd ∧ w.cell? ⟨gd, k, none⟩ = some (.int .u32 (l[k] : Int)) ∧ w.frozen? ⟨gd, k, none⟩ = false := by
  rcases h.2 with ⟨h1, h2⟩ | ⟨gd, cap, cur, h1, hb, hg, hnc, hcm, hcs, htake⟩
  · omega
  · injection h1 with e1 e2 e3
    have hk' : Blk w gd 22 cur := hg
    refine ⟨gd, e1, hb, ?_, hk'.frozen k⟩
    rw [hk'.cell k]
    have h5 : (nums l)[k]? = some (.int .u32 (l[k] : Int)) := by simp [nums, hk]
    rw [← htake, List.getElem?_take] at h5
    rw [if_pos (by omega)] at h5
    simpa using h5
end Go.Proofs.Ytegeadkilolngaa

/- A row of noughts, just made. -/
namespace Go.Proofs.Ytegeadkilolngaa
open Go.RowKit

theorem ON.make (w : World) {m : Nat} (hm : m ≤ maxLen) : ON (w.alloc (.cells (madeCells #[.int .u32 0] m) 22)) w.heap.size (.slice (some ⟨w.heap.size, 0, none⟩) m m) (List.replicate m 0) := by
  refine ⟨by simp [nums], .inr ⟨w.heap.size, m, madeCells #[.int .u32 0] m, by simp, Nat.le_refl _, heap_alloc_new w _, by simp, hm, by simp [madeCells], ?_⟩⟩
  rw [toList_madeCells_one]
  simp [nums]
theorem run_make_nat (w : World) {m : Nat} (hm : m ≤ 1000000000) : (Instr.makeSlice 68 (.int .i64 (m : Int)) (.int .i64 (m : Int))).run Try.prog w =
    .ok (.slice (some ⟨w.heap.size, 0, none⟩) m m) (w.alloc (.cells (madeCells #[.int .u32 0] m) 22)) := by
  obtain ⟨i0, hi0, hz0, hz1, hz2⟩ := info_parts info_32
  have h := run_make (P := Try.prog) w 68 22 i0 (.int .u32 0) (by kernel_rfl) hi0 hz0 .i64 .i64 (m : Int) (m : Int) (by omega) (Int.le_refl _) (by rw [hz2]; omega) (by omega)
  simpa [hz1, Value.cells] using h
end Go.Proofs.Ytegeadkilolngaa

/- The contract of the document's Times. -/
namespace Go.Proofs.Ytegeadkilolngaa
open Go.RowKit

theorem inner_law {j k x y u v : Nat} (h : u = v + bs k * y) : bs j * (x * u) = bs j * (x * v) + bs (j + k) * (x * y) := by
  rw [h, bs_add, Nat.mul_add, Nat.mul_add]
  congr 1
  generalize bs j = p; generalize bs k = q
  rw [Nat.mul_left_comm x q y, ← Nat.mul_assoc]
def TX1 (a b : List Nat) (m n n' : Nat) (v : Value) (w : World) (i : Value) (wr : World) : Prop := ∃ (j : Nat) (o : List Nat), i = .int .i64 (j : Int) ∧ j ≤ n ∧ ON wr w.heap.size v o ∧ o.length = m ∧ Hid (Wd o) ∧ Hid (wv o = wv (a.take j) * wv b) ∧ Hid (∀ t (_ : t < o.length), j + n' ≤ t → o[t] = 0) ∧ Below w.heap.size w wr
def TX2 (a b : List Nat) (m n' j x : Nat) (v : Value) (w : World) (cv i : Value) (wr : World) : Prop := ∃ (k c : Nat) (o : List Nat), i = .int .i64 (k : Int) ∧ k ≤ n' ∧ cv = .int .u64 (c : Int) ∧ c < 4294967296 ∧ ON wr w.heap.size v o ∧ o.length = m ∧ Hid (Wd o) ∧ Hid (wv o + bs (j + k) * c = wv (a.take j) * wv b + bs j * (x * wv (b.take k))) ∧ Hid (∀ t (_ : t < o.length), j + n' ≤ t → o[t] = 0) ∧ Below w.heap.size w wr

set_option maxRecDepth 100000 in
set_option maxHeartbeats 1600000 in
theorem times_any {A A' : Option Addr} {n n' cap cap' B B' : Nat} {a b : List Nat} {w : World} (hn : Hid (n = a.length)) (hn' : Hid (n' = b.length)) (hs : n ≤ 1000000) (hs' : n' ≤ 1000000) (hB : B ≤ w.heap.size) (hB' : B' ≤ w.heap.size) (ha : WR w B A a) (hb : WR w B' A' b) (wa : Hid (Wd a)) (wb : Hid (Wd b)) :
    Calls Try.prog 98 #[.slice A n cap, .slice A' n' cap'] w (NO w (wv a * wv b)) := by
  have hmk : ∀ u : World, (Instr.makeSlice 68 (.int .i64 ((n : Int) + (n' : Int))) (.int .i64 ((n : Int) + (n' : Int)))).run Try.prog u =
      .ok (.slice (some ⟨u.heap.size, 0, none⟩) (n + n') (n + n')) (u.alloc (.cells (madeCells #[.int .u32 0] (n + n')) 22)) := fun u => by
    have := run_make_nat u (m := n + n') (by omega)
    simpa using this
  go_enter Try.func98, Try.ntmps98
  go_wp2
  go_loopw [6] (fun i wr => TX1 a b (n + n') n n' (.slice (some ⟨w.heap.size, 0, none⟩) (n + n') (n + n')) w i wr) (fun i _ => n - (intOf i).toNat)
  case atStart => exact ⟨0, List.replicate (n + n') 0, rfl, Nat.zero_le _, ON.make w (by unfold maxLen; omega), by simp, Lib.hid (fun d h => by rw [List.eq_of_mem_replicate h]; omega), Lib.hid (by simp [wv_rep, wv]), Lib.hid (fun t h _ => by simp), (Below.refl w.heap.size w).alloc (Nat.le_refl _) _⟩
  case round =>
    obtain ⟨j, o, rfl, hj, hown, hol, HW, HV, HZ, hbel⟩ := hrel
    have hsz := hbel.size
    by_cases hlt : j < n
    · have hja : j < a.length := by rw [← hn.out]; exact hlt
      obtain ⟨ba, oa, rfl, hba, a0'⟩ := ha.at_ hja
      have hx : a[j] < 4294967296 := wa.out _ (List.getElem_mem hja)
      have HX := Lib.hid (take_in hja)
      generalize a[j] = x at *
      clear hja
      have hlt' : (j : Int) < (n : Int) := by omega
      go_wp2
      go_loopw [7, 8] (fun cv i wr => TX2 a b (n + n') n' j x (.slice (some ⟨w.heap.size, 0, none⟩) (n + n') (n + n')) w cv i wr) (fun _ i _ => n' - (intOf i).toNat)
      case atStart => exact ⟨0, 0, o, rfl, Nat.zero_le _, rfl, by omega, hown, hol, HW, Lib.hid (by rw [HV.out]; simp [wv]), HZ, hbel⟩
      case round =>
        clear hown hol HW HV HZ hbel hsz
        obtain ⟨k, c, o, rfl, hk, rfl, hc, hown, hol, HW, HV, HZ, hbel⟩ := hrel
        have hsz := hbel.size
        by_cases hkt : k < n'
        · have hkb : k < b.length := by rw [← hn'.out]; exact hkt
          obtain ⟨bb, ob, rfl, hbb, b0'⟩ := hb.at_ hkb
          have a0 := (hbel.cell (p := ⟨ba, _, none⟩) (by show ba < w.heap.size; omega)).trans a0'
          have b0 := (hbel.cell (p := ⟨bb, _, none⟩) (by show bb < w.heap.size; omega)).trans b0'
          clear b0'
          have hy : b[k] < 4294967296 := wb.out _ (List.getElem_mem hkb)
          have HY := Lib.hid (take_in hkb)
          generalize b[k] = y at *
          clear hkb
          have hjk : j + k < o.length := by omega
          obtain ⟨gd, hgd, -, c0, f0⟩ := hown.at_ hjk
          simp only [Option.some.injEq, Addr.mk.injEq, and_true] at hgd
          subst hgd
          have hz : o[j + k] < 4294967296 := HW.out _ (List.getElem_mem hjk)
          have HS := Lib.hid (times_step (x := x) (y := y) hjk HV.out)
          have hbig := times_big hx hy hz hc
          have hkt' : (k : Int) < (n' : Int) := by omega
          have hk1 : k + 1 ≤ n' := hkt
          have HO := Lib.hid hown
          generalize o[j + k] = z at *
          have hlen2 : j + k < n + n' := by omega
          go_wp2
          go_quiet (fail)
          go_wp2
          go_roundw
          case rel => exact ⟨k + 1, (x * y + z + c) / 4294967296, o.set (j + k) ((x * y + z + c) % 4294967296), by go_num, hk1, by simp, by omega, by simpa using ON.set (show ON (wr.drewN nq) _ _ _ from HO.out) (j + k) ((x * y + z + c) % 4294967296), by rw [List.length_set]; exact hol, Lib.hid (fun d hd => by
              rcases List.mem_or_eq_of_mem_set hd with e | e
              · exact HW.out d e
              · rw [e]; omega), Lib.hid (by rw [show j + (k + 1) = j + k + 1 from rfl, HS.out, inner_law HY.out, Nat.add_assoc]), Lib.hid (fun t ht htt => by rw [List.getElem_set_ne (by omega)]; exact HZ.out t (by simpa using ht) htt), (below_drewN hbel nq).setCell (Nat.le_refl _) _⟩
          case measure => simp [intOf]; omega
        · have hkn : k = n' := by omega
          subst hkn
          have hjk : j + k < o.length := by omega
          have h00 : o[j + k] = 0 := HZ.out _ hjk (Nat.le_refl _)
          obtain ⟨gd, hgd, -, c0, f0⟩ := hown.at_ hjk
          simp only [Option.some.injEq, Addr.mk.injEq, and_true] at hgd
          subst hgd
          have HS : Hid (wv (o.set (j + k) c) = wv (a.take (j + 1)) * wv b) := Lib.hid (by
            have h1 := wv_set (d := c) hjk
            have hbt : b.take k = b := List.take_of_length_le (by rw [← hn'.out]; exact Nat.le_refl _)
            rw [h00, Nat.mul_zero, Nat.add_zero, HV.out, hbt] at h1
            rw [h1, HX.out, Nat.add_mul, Nat.mul_assoc])
          have HO := Lib.hid hown
          have hkt' : ¬ (k : Int) < (k : Int) := by omega
          have hj1 : j + 1 ≤ n := hlt
          have hlen2 : j + k < n + k := by omega
          rw [h00] at c0
          clear h00
          go_wp2
          go_roundw
          case rel => exact ⟨j + 1, o.set (j + k) c, by go_num, hj1, by simpa using ON.set HO.out (j + k) c, by rw [List.length_set]; exact hol, Lib.hid (fun d hd => by
              rcases List.mem_or_eq_of_mem_set hd with e | e
              · exact HW.out d e
              · rw [e]; exact hc), HS, Lib.hid (fun t ht htt => by rw [List.getElem_set_ne (by omega)]; exact HZ.out t (by simpa using ht) (by omega)), hbel.setCell (Nat.le_refl _) _⟩
          case measure => simp [intOf]; omega
    · have hlt' : ¬ (j : Int) < (n : Int) := by omega
      have HF : Hid (wv o = wv a * wv b) := Lib.hid (by rw [HV.out, List.take_of_length_le (by rw [← hn.out]; omega)])
      obtain ⟨A2, n2, c2, e2, hn2, hl2, hm2, hr2⟩ := hown.form
      injection e2 with e3 e4 e5
      subst e3 e4 e5
      go_wp2_with fail
      refine (trim_any hn2 hl2 hm2 hr2).mono ?_
      rintro e w' ⟨k', rfl, hk', hz, ht, rfl⟩
      go_wp2
      go_ret
      exact NO.mk hk' (by have := hn2.out; omega) hm2 hz ht hr2 HW.out HF.out hbel
end Go.Proofs.Ytegeadkilolngaa

/- The document's whole numbers as what they are worth: the contracts once more; the contract of least. -/
namespace Go.Proofs.Ytegeadkilolngaa
open Go.RowKit

/-- a whole number that is read, of n words, worth v -/
def NV (w : World) (B : Nat) (A : Option Addr) (n v : Nat) : Prop := ∃ l, n = l.length ∧ WR w B A l ∧ Wd l ∧ Trim l ∧ wv l = v ∧ B ≤ w.heap.size
/-- a whole number that is answered -/
def NR (w : World) (v : Nat) (e : Ending) (w' : World) : Prop := ∃ A k c, e = .returned (.slice A k c) ∧ NV w' w'.heap.size A k v ∧ Below w.heap.size w w'
theorem NO.nr {w w' : World} {v : Nat} {e : Ending} (h : NO w v e w') : NR w v e w' := by
  obtain ⟨A, k, c, l, h1, h2, h3, h4, h5, h6, h7, h8, h9⟩ := h
  exact ⟨A, k, c, h1, ⟨l, h2.out, h5, h6, h7, h8, Nat.le_refl _⟩, h9⟩
theorem NV.below {w w' : World} {B : Nat} {A : Option Addr} {n v : Nat} (h : NV w B A n v) (hb : Below w.heap.size w w') : NV w' B A n v := by
  obtain ⟨l, h1, h2, h3, h4, h5, h6⟩ := h
  exact ⟨l, h1, h2.below (hb.mono h6), h3, h4, h5, Nat.le_trans h6 hb.size⟩
theorem NV.len {w : World} {B : Nat} {A : Option Addr} {n v : Nat} (h : NV w B A n v) (hv : v < two 30000) : n ≤ 1000000 := by
  obtain ⟨l, h1, h2, h3, h4, h5, h6⟩ := h
  by_cases hl : n ≤ 1000000
  · exact hl
  · have hn : l ≠ [] := by rintro rfl; simp at h1; omega
    have h7 := trim_pos h4 hn
    have h8 : bs (l.length - 1) ≤ wv l := h7
    rw [bs_two, h5] at h8
    have h9 := two_le (show 30000 ≤ 32 * (l.length - 1) by omega)
    exact absurd (Nat.le_trans h9 h8) (by omega)
theorem nv_zero {w : World} {B : Nat} {A : Option Addr} {n v : Nat} (h : NV w B A n v) : v = 0 ↔ n = 0 := by
  obtain ⟨l, h1, h2, h3, h4, h5, h6⟩ := h
  rw [← h5, trim_nil h4, h1]
  simp
theorem NR.after {w w1 w' : World} {v : Nat} {e : Ending} (hb : Below w.heap.size w w1) (h : NR w1 v e w') : NR w v e w' := by
  obtain ⟨A, k, c, h1, h2, h3⟩ := h
  exact ⟨A, k, c, h1, h2, hb.trans (h3.mono hb.size)⟩
section
variable {A A' : Option Addr} {n n' cap cap' B B' x y v : Nat} {w : World}
theorem of_nv (n : Nat) (w : World) (h : Hid (n < 18446744073709551616)) : Calls Try.prog 86 #[.int .u64 (n : Int)] w (NR w n) := (of_any n w h).mono fun _ _ h => h.nr
theorem amount_nv (m : Nat) (w : World) (h : m < 4294967296) : Calls Try.prog 84 #[.int .u32 (m : Int)] w (NR w (amt m)) := (amount_any m w h).mono fun _ _ h => h.nr
theorem twice_nv {k : Nat} (ha : NV w B A n x) (hx : x < two 30000) (hk : k ≤ 1000000) (hv : Hid (two k * x = v)) :
    Calls Try.prog 85 #[.slice A n cap, .int .i64 (k : Int)] w (NR w v) := by
  have hl := ha.len hx
  obtain ⟨l, h1, h2, h3, h4, h5, h6⟩ := ha
  have := twice_any (cap := cap) (Lib.hid h1) hl hk h6 h2 (Lib.hid h3)
  rw [h5, hv.out] at this
  exact this.mono fun _ _ h => h.nr
theorem plus_nv (ha : NV w B A n x) (hb : NV w B' A' n' y) (hx : x < two 30000) (hy : y < two 30000) (hv : Hid (x + y = v)) :
    Calls Try.prog 99 #[.slice A n cap, .slice A' n' cap'] w (NR w v) := by
  have hl := ha.len hx
  have hl' := hb.len hy
  obtain ⟨l, h1, h2, h3, h4, h5, h6⟩ := ha
  obtain ⟨m, g1, g2, g3, g4, g5, g6⟩ := hb
  have := plus_any (cap := cap) (cap' := cap') (Lib.hid h1) (Lib.hid g1) hl hl' h6 g6 h2 g2 (Lib.hid h3) (Lib.hid g3)
  rw [h5, g5, hv.out] at this
  exact this.mono fun _ _ h => h.nr
theorem times_nv (ha : NV w B A n x) (hb : NV w B' A' n' y) (hx : x < two 30000) (hy : y < two 30000) (hv : Hid (x * y = v)) :
    Calls Try.prog 98 #[.slice A n cap, .slice A' n' cap'] w (NR w v) := by
  have hl := ha.len hx
  have hl' := hb.len hy
  obtain ⟨l, h1, h2, h3, h4, h5, h6⟩ := ha
  obtain ⟨m, g1, g2, g3, g4, g5, g6⟩ := hb
  have := times_any (cap := cap) (cap' := cap') (Lib.hid h1) (Lib.hid g1) hl hl' h6 g6 h2 g2 (Lib.hid h3) (Lib.hid g3)
  rw [h5, g5, hv.out] at this
  exact this.mono fun _ _ h => h.nr
theorem compare_nv {d : Int} (ha : NV w B A n x) (hb : NV w B' A' n' y) (hx : x < two 30000) (hy : y < two 30000) (hv : Hid (cmpV x y = d)) :
    Calls Try.prog 87 #[.slice A n cap, .slice A' n' cap'] w fun e w' => e = .returned (.int .i64 d) ∧ ∃ m, w' = w.drewN m := by
  have hl := ha.len hx
  have hl' := hb.len hy
  obtain ⟨l, h1, h2, h3, h4, h5, h6⟩ := ha
  obtain ⟨m, g1, g2, g3, g4, g5, g6⟩ := hb
  have := compare_any (cap := cap) (cap' := cap') (Lib.hid h1) (Lib.hid g1) (by omega) (by omega) h2 g2 h3 g3 h4 g4
  rw [h5, g5, hv.out] at this
  exact this
end
theorem below_of_drew {B : Nat} {w w' : World} (h : Below B w w') (n : Nat) : Below B w (w'.drewN n) := below_drewN h n
theorem amt_le {m : Nat} (h : m ≤ 2139095040) : amt m ≤ two 277 := by
  have := amt_mono h
  rw [amt_inf, show 8388608 * two 254 = two 277 from by rw [← two_23, ← two_add]] at this
  exact this
theorem amt_big {m : Nat} (h : m ≤ 2139095040) : amt m < two 30000 := Nat.lt_of_le_of_lt (amt_le h) (Nat.lt_of_lt_of_le (show two 277 < two 278 by have := two_pos 277; have h := two_succ 277; show two 277 < two (277 + 1); omega) (two_le (by omega)))
theorem amt_q {m q : Nat} (h : m ≤ 2139095040) (hq : q < two 10000) : amt m * q < two 30000 := by
  have h1 : amt m * q ≤ two 277 * two 10000 := Nat.mul_le_mul (amt_le h) (by omega)
  rw [← two_add] at h1
  have h2 := two_le (show 277 + 10000 + 1 ≤ 30000 by omega)
  have h3 := two_pos (277 + 10000)
  rw [two_succ] at h2
  omega
theorem ten_thirty {q : Nat} (hq : q < two 10000) : q < two 30000 := Nat.lt_of_lt_of_le hq (two_le (by omega))
def LRel (p q : Nat) (w : World) (lo hi : Value) (wr : World) : Prop := ∃ l h : Nat, lo = .int .u32 (l : Int) ∧ hi = .int .u32 (h : Int) ∧ l < h ∧ h ≤ 2139095041 ∧ Hid (amt l * q ≤ p) ∧ Hid (h < 2139095041 → p < amt h * q) ∧ Below w.heap.size w wr
theorem half_cast32 {l h : Nat} (hl : l < h) : (l : Int) + ((h : Int) - (l : Int)) / 2 = ((l + (h - l) / 2 : Nat) : Int) := by omega

set_option maxRecDepth 100000 in
set_option maxHeartbeats 1600000 in
theorem least_any {A A' : Option Addr} {n n' cap cap' B B' p q : Nat} {w : World} (ha : NV w B A n p) (hb : NV w B' A' n' q) (hp : Hid (p < two 10000)) (hq : Hid (q < two 10000)) :
    Calls Try.prog 97 #[.slice A n cap, .slice A' n' cap'] w (BR w (cut p q)) := by
  go_enter Try.func97, Try.ntmps97
  go_wp2
  go_loopw [5, 6] (fun lo hi wr => LRel p q w lo hi wr) (fun lo hi _ => (intOf hi - intOf lo).toNat)
  case atStart => exact ⟨0, 2139095041, rfl, rfl, by omega, by omega, Lib.hid (by rw [amt_zero]; omega), Lib.hid (fun h => by omega), Below.refl _ _⟩
  case round =>
    obtain ⟨l, h, rfl, rfl, hlh, hh, HL, HH, hbel⟩ := hrel
    have hsz := hbel.size
    by_cases h1 : h = l + 1
    · subst h1
      have HF : Hid (cut p q = l) := Lib.hid (IsCut.eq ⟨by omega, HL.out, fun hlt => HH.out (by omega)⟩)
      have hc : ¬ (1 : Int) < ((l + 1 : Nat) : Int) - (l : Int) := by omega
      go_wp2
      go_ret
      exact ⟨by rw [HF.out]; rfl, hbel⟩
    · obtain ⟨m, hm⟩ : ∃ m, l + (h - l) / 2 = m := ⟨_, rfl⟩
      have hm1 : l < m := by omega
      have hm2 : m < h := by omega
      have hcast : (l : Int) + ((h : Int) - (l : Int)) / 2 = (m : Int) := by omega
      have hc : (1 : Int) < (h : Int) - (l : Int) := by omega
      clear hm
      obtain ⟨d, hd⟩ : ∃ d, cmpV (amt m * q) p = d := ⟨_, rfl⟩
      have HD := Lib.hid hd
      clear hd
      by_cases hle : amt m * q ≤ p
      · have HLE := Lib.hid hle
        have hd0 : d ≤ 0 := by rw [← HD.out]; unfold cmpV; split; · omega
                               · split <;> omega
        clear hle
        go_wp2_with fail
        refine (amount_nv m _ (by omega)).mono ?_
        rintro e w1 ⟨A1, k1, c1, rfl, hv1, hb1⟩
        go_wp2_with fail
        have hbq := (hb.below hbel).below hb1
        refine (times_nv hv1 hbq (amt_big (by omega)) (ten_thirty hq.out) (Lib.hid rfl)).mono ?_
        rintro e w2 ⟨A2, k2, c2, rfl, hv2, hb2⟩
        go_wp2_with fail
        have hap := ((ha.below hbel).below hb1).below hb2
        refine (compare_nv hv2 hap (amt_q (by omega) hq.out) (ten_thirty hp.out) HD).mono ?_
        rintro e w3 ⟨rfl, nd, rfl⟩
        go_wp2
        go_roundw
        case rel => exact ⟨m, h, rfl, rfl, hm2, hh, HLE, HH, below_drewN ((hbel.trans (hb1.mono hbel.size)).trans (hb2.mono (by have := hb1.size; have := hbel.size; omega))) nd⟩
        case measure => simp [intOf]; omega
      · have HLE := Lib.hid hle
        have hd0 : ¬ d ≤ 0 := by rw [← HD.out, cmpV_gt (by omega)]; decide
        clear hle
        go_wp2_with fail
        refine (amount_nv m _ (by omega)).mono ?_
        rintro e w1 ⟨A1, k1, c1, rfl, hv1, hb1⟩
        go_wp2_with fail
        have hbq := (hb.below hbel).below hb1
        refine (times_nv hv1 hbq (amt_big (by omega)) (ten_thirty hq.out) (Lib.hid rfl)).mono ?_
        rintro e w2 ⟨A2, k2, c2, rfl, hv2, hb2⟩
        go_wp2_with fail
        have hap := ((ha.below hbel).below hb1).below hb2
        refine (compare_nv hv2 hap (amt_q (by omega) hq.out) (ten_thirty hp.out) HD).mono ?_
        rintro e w3 ⟨rfl, nd, rfl⟩
        go_wp2
        go_roundw
        case rel => exact ⟨l, m, rfl, rfl, hm1, by omega, HL, Lib.hid (fun _ => by have := HLE.out; omega), below_drewN ((hbel.trans (hb1.mono hbel.size)).trans (hb2.mono (by have := hb1.size; have := hbel.size; omega))) nd⟩
        case measure => simp [intOf]; omega
end Go.Proofs.Ytegeadkilolngaa

/- The contract of the document's Rounded. -/
namespace Go.Proofs.Ytegeadkilolngaa
open Go.RowKit

theorem cmpV_zero {x y : Nat} : cmpV x y = 0 ↔ x = y := by
  unfold cmpV
  split
  · constructor <;> intro h <;> omega
  · split
    · constructor <;> intro h <;> omega
    · constructor <;> intro h <;> omega
theorem cmpV_neg {x y : Nat} : cmpV x y < 0 ↔ x < y := by
  unfold cmpV
  split
  · constructor <;> intro h <;> omega
  · split
    · constructor <;> intro h <;> omega
    · constructor <;> intro h <;> omega
theorem sgn_le (neg : Bool) : sgn neg ≤ 2147483648 := by cases neg <;> decide
theorem amt_two {m : Nat} (h : m < 2139095040) : amt m + amt (m + 1) ≤ two 278 := by
  have h1 := amt_le (m := m) (by omega)
  have h2 := amt_le (m := m + 1) (by omega)
  have h := two_succ 277
  show _ ≤ two (277 + 1)
  omega
theorem amt_sum_big {m : Nat} (h : m < 2139095040) : amt m + amt (m + 1) < two 30000 := by
  have h1 := amt_two h
  have h2 := two_le (show 279 ≤ 30000 by omega)
  have h3 := two_succ 278
  have h4 := two_pos 278
  have h5 : two (278 + 1) = two 279 := rfl
  omega
theorem amt_sum_q {m q : Nat} (h : m < 2139095040) (hq : q < two 10000) : (amt m + amt (m + 1)) * q < two 30000 := by
  have h1 : (amt m + amt (m + 1)) * q ≤ two 278 * two 10000 := Nat.mul_le_mul (amt_two h) (by omega)
  rw [← two_add] at h1
  have h2 := two_le (show 278 + 10000 + 1 ≤ 30000 by omega)
  have h3 := two_pos (278 + 10000)
  rw [two_succ] at h2
  omega
theorem two_p {p : Nat} (h : p < two 10000) : two 1 * p < two 30000 := by
  have h2 := two_le (show 10000 + 1 ≤ 30000 by omega)
  rw [two_succ] at h2
  rw [show two 1 = 2 from rfl]
  omega

set_option maxRecDepth 100000 in
set_option maxHeartbeats 1600000 in
theorem rounded_any {way : Int} {neg : Bool} {A A' : Option Addr} {n n' cap cap' B B' p q : Nat} {w : World} (ha : NV w B A n p) (hb : NV w B' A' n' q) (hp : Hid (p < two 10000)) (hq : Hid (q < two 10000)) :
    Calls Try.prog 88 #[.int .i64 way, .bool neg, .slice A n cap, .slice A' n' cap'] w (BR w (rnd way neg p q)) := by
  have HR : Hid (rnd way neg p q = rndM way neg p q (cut p q)) := Lib.hid rfl
  have hM := (cut_is p q).1
  have HS := sgn_le neg
  go_enter Try.func88, Try.ntmps88
  go_upto_if 18 with (go_at_call 97; refine (least_any ha hb hp hq).mono ?_; rintro e w1 ⟨rfl, hb1⟩)
  generalize cut p q = M at *
  go_cut [10] from 18 to 18 (fun s wx => s = .int .u32 (sgn neg : Int) ∧ wx = w1)
  case first =>
    cases neg
    all_goals
      go_wp2
      go_meet
      case rel => exact ⟨rfl, rfl⟩
  case rest =>
    obtain ⟨rfl, rfl⟩ := hcut
    go_upto_region 5 with fail
    go_cut [11] from 19 to 31 (fun s wx => s = .bool (outw way neg) ∧ wx = wc)
    case first =>
      by_cases w1 : way = 1
      · subst w1
        cases neg
        all_goals
          go_wp2
          go_meet
          case rel => exact ⟨rfl, rfl⟩
      · have e1 : (way == 1) = false := by simpa using w1
        by_cases w2 : way = 2
        · subst w2
          cases neg
          all_goals
            go_wp2
            go_meet
            case rel => exact ⟨rfl, rfl⟩
        · have e2 : (way == 2) = false := by simpa using w2
          go_wp2
          go_meet
          case rel => exact ⟨by simp [outw, e1, e2], rfl⟩
    case rest =>
      obtain ⟨rfl, rfl⟩ := hcut
      go_upto_region 6 with fail
      go_cut [12] from 32 to 44 (fun s wx => s = .bool (inw way neg) ∧ wx = wc)
      case first =>
        by_cases w1 : way = 1
        · subst w1
          cases neg
          all_goals
            go_wp2
            go_meet
            case rel => exact ⟨rfl, rfl⟩
        · have e1 : (way == 1) = false := by simpa using w1
          by_cases w2 : way = 2
          · subst w2
            cases neg
            all_goals
              go_wp2
              go_meet
              case rel => exact ⟨rfl, rfl⟩
          · have e2 : (way == 2) = false := by simpa using w2
            go_wp2
            go_meet
            case rel => exact ⟨by simp [inw, e1, e2], rfl⟩
      case rest =>
        obtain ⟨rfl, rfl⟩ := hcut
        go_upto_region 7 with fail
        obtain ⟨d, hd⟩ : ∃ d, cmpV (amt M * q) p = d := ⟨_, rfl⟩
        have HD := Lib.hid hd
        clear hd
        obtain ⟨S, hS⟩ : ∃ s, sgn neg = s := ⟨_, rfl⟩
        have HSS := Lib.hid hS
        rw [hS] at HS
        simp only [hS]
        clear hS
        obtain ⟨o, ho⟩ : ∃ o, outw way neg = o := ⟨_, rfl⟩
        have HO := Lib.hid ho
        simp only [ho]
        clear ho
        obtain ⟨i, hi⟩ : ∃ i, inw way neg = i := ⟨_, rfl⟩
        have HI := Lib.hid hi
        simp only [hi]
        clear hi
        by_cases hinf : M = 2139095040
        · subst hinf
          have HE : Hid (rnd way neg p q = S + (if i = true then 2139095039 else 2139095040)) := Lib.hid (by rw [HR.out, rndM, if_pos rfl, hugeP, HSS.out, HI.out])
          have hinf : ((2139095040 : Int) == 2139095040) = true := rfl
          go_wp2_with fail
          refine (amount_nv 2139095040 _ (by omega)).mono ?_
          rintro e w2 ⟨A1, k1, c1, rfl, hv1, hb2⟩
          go_wp2_with fail
          have hbq := (hb.below hb1).below hb2
          refine (times_nv hv1 hbq (amt_big hM) (ten_thirty hq.out) (Lib.hid rfl)).mono ?_
          rintro e w3 ⟨A2, k2, c2, rfl, hv2, hb3⟩
          go_wp2_with fail
          have hap := ((ha.below hb1).below hb2).below hb3
          refine (compare_nv hv2 hap (amt_q hM hq.out) (ten_thirty hp.out) HD).mono ?_
          rintro e w4 ⟨rfl, nd, rfl⟩
          have hb4 : Below w.heap.size w (w3.drewN nd) := below_drewN ((hb1.trans (hb2.mono hb1.size)).trans (hb3.mono (by have := hb1.size; have := hb2.size; omega))) nd
          cases i
          all_goals
            go_wp2
            go_ret
            exact ⟨by rw [HE.out]; exact congrArg Ending.returned (congrArg (Value.int .u32) (by simp)), hb4⟩
        · have hinf' : ((M : Int) == 2139095040) = false := by rw [beq_eq_false_iff_ne]; omega
          by_cases hex : amt M * q = p
          · have HE : Hid (rnd way neg p q = S + M) := Lib.hid (by rw [HR.out, rndM, if_neg hinf, if_pos (.inl hex), HSS.out])
            have hd0 : d = 0 := by rw [← HD.out]; exact cmpV_zero.2 hex
            subst hd0
            clear hex
            go_wp2_with fail
            refine (amount_nv M _ (by omega)).mono ?_
            rintro e w2 ⟨A1, k1, c1, rfl, hv1, hb2⟩
            go_wp2_with fail
            have hbq := (hb.below hb1).below hb2
            refine (times_nv hv1 hbq (amt_big hM) (ten_thirty hq.out) (Lib.hid rfl)).mono ?_
            rintro e w3 ⟨A2, k2, c2, rfl, hv2, hb3⟩
            go_wp2_with fail
            have hap := ((ha.below hb1).below hb2).below hb3
            refine (compare_nv hv2 hap (amt_q hM hq.out) (ten_thirty hp.out) HD).mono ?_
            rintro e w4 ⟨rfl, nd, rfl⟩
            have hb4 : Below w.heap.size w (w3.drewN nd) := below_drewN ((hb1.trans (hb2.mono hb1.size)).trans (hb3.mono (by have := hb1.size; have := hb2.size; omega))) nd
            go_wp2
            go_ret
            exact ⟨by rw [HE.out]; exact congrArg Ending.returned (congrArg (Value.int .u32) (by simp)), hb4⟩
          · have hd0 : (d == 0) = false := by rw [beq_eq_false_iff_ne, ← HD.out]; exact fun h => hex (cmpV_zero.1 h)
            have HX := Lib.hid hex
            clear hex
            go_wp2_with fail
            refine (amount_nv M _ (by omega)).mono ?_
            rintro e w2 ⟨A1, k1, c1, rfl, hv1, hb2⟩
            go_wp2_with fail
            have hbq := (hb.below hb1).below hb2
            refine (times_nv hv1 hbq (amt_big hM) (ten_thirty hq.out) (Lib.hid rfl)).mono ?_
            rintro e w3 ⟨A2, k2, c2, rfl, hv2, hb3⟩
            go_wp2_with fail
            have hap := ((ha.below hb1).below hb2).below hb3
            refine (compare_nv hv2 hap (amt_q hM hq.out) (ten_thirty hp.out) HD).mono ?_
            rintro e w4 ⟨rfl, nd, rfl⟩
            have hb4 : Below w.heap.size w (w3.drewN nd) := below_drewN ((hb1.trans (hb2.mono hb1.size)).trans (hb3.mono (by have := hb1.size; have := hb2.size; omega))) nd
            cases i
            · cases o
              · obtain ⟨c, hc⟩ : ∃ c, cmpV ((amt M + amt (M + 1)) * q) (two 1 * p) = c := ⟨_, rfl⟩
                have HC := Lib.hid hc
                clear hc
                have HE : Hid (rnd way neg p q = if c < 0 ∨ (c = 0 ∧ M % 2 = 1) then S + (M + 1) else S + M) := Lib.hid (by
                  have h1 : ((amt M + amt (M + 1)) * q < 2 * p ∨ (amt M + amt (M + 1)) * q = 2 * p ∧ M % 2 = 1) ↔ (c < 0 ∨ (c = 0 ∧ M % 2 = 1)) := by
                    rw [← HC.out, cmpV_neg, cmpV_zero]; exact Iff.rfl
                  rw [HR.out, rndM, if_neg hinf, if_neg (by simp [HX.out, HI.out]), if_neg (by simp [HO.out]), HSS.out]
                  simp only [h1])
                have hM1 : M + 1 < 4294967296 := by omega
                have hMlt : M < 2139095040 := by omega
                obtain ⟨M1, hM1e⟩ : ∃ x, M + 1 = x := ⟨_, rfl⟩
                have hcast : (M : Int) + 1 = (M1 : Int) := by omega
                rw [hM1e] at hM1
                have HM1 := Lib.hid hM1e
                clear hM1e
                go_wp2_with fail
                refine (amount_nv M _ (by omega)).mono ?_
                rintro e w5 ⟨A5, k5, c5, rfl, hv5, hb5⟩
                go_wp2_with fail
                refine (amount_nv M1 _ hM1).mono ?_
                rintro e w6 ⟨A6, k6, c6, rfl, hv6, hb6⟩
                go_wp2_with fail
                refine (plus_nv (hv5.below hb6) hv6 (amt_big hM) (amt_big (by have := HM1.out; omega)) (Lib.hid rfl)).mono ?_
                rintro e w7 ⟨A7, k7, c7, rfl, hv7, hb7⟩
                go_wp2_with fail
                rw [← HM1.out] at hv7
                have hbq8 := ((((hbq.below hb3).below (below_drewN (Below.refl _ _) nd)).below hb5).below hb6).below hb7
                refine (times_nv hv7 hbq8 (amt_sum_big hMlt) (ten_thirty hq.out) (Lib.hid rfl)).mono ?_
                rintro e w8 ⟨A8, k8, c8, rfl, hv8, hb8⟩
                go_wp2_with fail
                have hap9 := ((((hap.below (below_drewN (Below.refl _ _) nd)).below hb5).below hb6).below hb7).below hb8
                refine (twice_nv (k := 1) hap9 (ten_thirty hp.out) (by omega) (Lib.hid rfl)).mono ?_
                rintro e w9 ⟨A9, k9, c9, rfl, hv9, hb9⟩
                go_wp2_with fail
                refine (compare_nv (hv8.below hb9) hv9 (amt_sum_q hMlt hq.out) (two_p hp.out) HC).mono ?_
                rintro e w10 ⟨rfl, ne, rfl⟩
                have hbz : Below w.heap.size w (w9.drewN ne) := by
                  have s1 := hb4.size
                  have s2 := hb5.size
                  have s3 := hb6.size
                  have s4 := hb7.size
                  have s5 := hb8.size
                  exact below_drewN (((((hb4.trans (hb5.mono s1)).trans (hb6.mono (by omega))).trans (hb7.mono (by omega))).trans (hb8.mono (by omega))).trans (hb9.mono (by omega))) ne
                clear hv5 hv6 hv7 hv8 hv9 hbq8 hap9 hb5 hb6 hb7 hb8 hb9 hap hbq hb4 hb2 hb3 hv1 hv2 hb1 ha hb
                by_cases hc1 : c < 0
                · have HE2 : Hid (rnd way neg p q = S + (M + 1)) := Lib.hid (by rw [HE.out, if_pos (.inl hc1)])
                  go_wp2
                  go_ret
                  exact ⟨by rw [HE2.out]; exact congrArg Ending.returned (congrArg (Value.int .u32) (by simp; omega)), hbz⟩
                · by_cases hc2 : c = 0
                  · by_cases hpar : M % 2 = 1
                    · have HE2 : Hid (rnd way neg p q = S + (M + 1)) := Lib.hid (by rw [HE.out, if_pos (.inr ⟨hc2, hpar⟩)])
                      have hpar' : ((M : Int) % 2 == 1) = true := by rw [beq_iff_eq]; omega
                      subst hc2
                      clear hpar
                      go_wp2
                      go_ret
                      exact ⟨by rw [HE2.out]; exact congrArg Ending.returned (congrArg (Value.int .u32) (by simp; omega)), hbz⟩
                    · have HE2 : Hid (rnd way neg p q = S + M) := Lib.hid (by rw [HE.out, if_neg (by omega)])
                      have hpar' : ((M : Int) % 2 == 1) = false := by rw [beq_eq_false_iff_ne]; omega
                      subst hc2
                      clear hpar
                      go_wp2
                      go_ret
                      exact ⟨by rw [HE2.out]; exact congrArg Ending.returned (congrArg (Value.int .u32) (by simp)), hbz⟩
                  · have HE2 : Hid (rnd way neg p q = S + M) := Lib.hid (by rw [HE.out, if_neg (by omega)])
                    have hc2' : (c == 0) = false := by rw [beq_eq_false_iff_ne]; exact hc2
                    go_wp2
                    go_ret
                    exact ⟨by rw [HE2.out]; exact congrArg Ending.returned (congrArg (Value.int .u32) (by simp)), hbz⟩
              · have HE : Hid (rnd way neg p q = S + (M + 1)) := Lib.hid (by rw [HR.out, rndM, if_neg hinf, if_neg (by simp [HX.out, HI.out]), if_pos HO.out, HSS.out])
                go_wp2
                go_ret
                exact ⟨by rw [HE.out]; exact congrArg Ending.returned (congrArg (Value.int .u32) (by simp; omega)), hb4⟩
            · have HE : Hid (rnd way neg p q = S + M) := Lib.hid (by rw [HR.out, rndM, if_neg hinf, if_pos (.inr HI.out), HSS.out])
              go_wp2
              go_ret
              exact ⟨by rw [HE.out]; exact congrArg Ending.returned (congrArg (Value.int .u32) (by simp)), hb4⟩
end Go.Proofs.Ytegeadkilolngaa
