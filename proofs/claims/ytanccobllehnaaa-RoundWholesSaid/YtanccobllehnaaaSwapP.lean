/- Plain: sums and products changed about; what comes out is its own Canon; a finite one less itself. And Canon's contract. -/
import Derived.Test.YtanccobllehnaaaSoftC
namespace Go.Proofs.Ytanccobllehnaaa
open Go.RowKit

theorem sgn_two (neg : Bool) : sgn neg = 0 ∨ sgn neg = 2147483648 := by cases neg <;> simp [sgn]
theorem sgn_of {a : Nat} : sgn (decide (2147483648 ≤ a)) = if 2147483648 ≤ a then 2147483648 else 0 := by
  unfold sgn; simp
theorem open_inf {a : Nat} {x : Num} (h : a < 4294967296) (hx : openN a = x) (hi : x.inf = true) : a = sgn x.neg + 2139095040 := by
  subst hx
  unfold openN at hi ⊢
  split at hi
  · rename_i he
    simp at hi
    rw [if_pos he]
    show a = sgn (decide (2147483648 ≤ a)) + 2139095040
    rw [sgn_of]
    split <;> omega
  · split at hi <;> simp at hi
theorem open_zero {a : Nat} {x : Num} (h : a < 4294967296) (hx : openN a = x) (hn : x.nan = false) (hi : x.inf = false) (hs : x.sig = 0) : a = sgn x.neg := by
  subst hx
  unfold openN at hn hi hs ⊢
  split at hn
  · rename_i he
    rw [if_pos he] at hi
    simp at hn hi
    omega
  · rename_i he
    rw [if_neg he] at hs ⊢
    split at hs
    · rename_i h0
      rw [if_pos h0]
      show a = sgn (decide (2147483648 ≤ a))
      rw [sgn_of]
      have hs : a % 8388608 = 0 := hs
      split <;> omega
    · have hs : a % 8388608 + 8388608 = 0 := hs
      omega
theorem coreN_comm {way : Int} {x y : Num} (h : x.exp = y.exp) : coreN way x y = coreN way y x := by
  unfold coreN
  rw [h]
  simp only [Int.sub_self, Int.toNat_zero, Nat.zero_le, if_true]
  have e1 : ∀ s, s * two 0 = s := fun s => Nat.mul_one s
  rw [e1, e1]
  by_cases hn : x.neg = y.neg
  · rw [if_pos hn, if_pos hn.symm, hn, Nat.add_comm]
  · rw [if_neg hn, if_neg (show ¬ y.neg = x.neg from fun e => hn e.symm)]
    by_cases he : x.sig = y.sig
    · rw [if_pos he, if_pos he.symm]
    · rw [if_neg he, if_neg (show ¬ y.sig = x.sig from fun e => he e.symm)]
      by_cases hl : y.sig < x.sig
      · rw [if_pos hl, if_neg (by omega)]
      · rw [if_neg hl, if_pos (by omega)]
theorem addP_comm (way : Int) {a b : Nat} (ha : a < 4294967296) (hb : b < 4294967296) : addP way b a = addP way a b := by
  unfold addP
  obtain ⟨x, hx⟩ : ∃ x, openN a = x := ⟨_, rfl⟩
  obtain ⟨y, hy⟩ : ∃ y, openN b = y := ⟨_, rfl⟩
  have ix := open_inf ha hx
  have iy := open_inf hb hy
  have zx := open_zero ha hx
  have zy := open_zero hb hy
  rw [hx, hy]
  unfold addN
  have e1 : (y.nan || x.nan || (y.inf && x.inf && y.neg != x.neg)) = (x.nan || y.nan || (x.inf && y.inf && x.neg != y.neg)) := by
    cases x.nan <;> cases y.nan <;> cases x.inf <;> cases y.inf <;> cases x.neg <;> cases y.neg <;> rfl
  rw [e1]
  by_cases hn : (x.nan || y.nan || (x.inf && y.inf && x.neg != y.neg)) = true
  · rw [if_pos hn, if_pos hn]
  · rw [if_neg hn, if_neg hn]
    by_cases h1 : x.inf = true
    · by_cases h2 : y.inf = true
      · rw [if_pos h2, if_pos h1]
        have hs : x.neg = y.neg := by
          cases hxn : x.neg <;> cases hyn : y.neg <;> first | rfl | (exfalso; apply hn; simp [h1, h2, hxn, hyn])
        rw [ix h1, iy h2, hs]
      · rw [if_neg h2, if_pos h1, if_pos h1]
    · by_cases h2 : y.inf = true
      · rw [if_pos h2, if_neg h1, if_pos h2]
      · rw [if_neg h2, if_neg h1, if_neg h1, if_neg h2]
        by_cases hz : x.sig = 0 ∧ y.sig = 0
        · rw [if_pos ⟨hz.2, hz.1⟩, if_pos hz]
          by_cases e : a = b
          · rw [if_pos e.symm, if_pos e, e]
          · rw [if_neg (fun h => e h.symm), if_neg e]
        · rw [if_neg (fun h => hz ⟨h.2, h.1⟩), if_neg hz]
          by_cases l1 : x.exp < y.exp
          · rw [if_neg (by omega), if_pos l1]
          · by_cases l2 : y.exp < x.exp
            · rw [if_pos l2, if_neg l1]
            · rw [if_neg l2, if_neg l1, coreN_comm (by omega)]
theorem mulP_comm (way : Int) (a b : Nat) : mulP way b a = mulP way a b := by
  unfold mulP mulN
  generalize openN a = x
  generalize openN b = y
  have e1 : (y.neg != x.neg) = (x.neg != y.neg) := by cases x.neg <;> cases y.neg <;> rfl
  have e2 : (y.nan || x.nan || (y.inf && !x.inf && x.sig == 0) || (x.inf && !y.inf && y.sig == 0)) = (x.nan || y.nan || (x.inf && !y.inf && y.sig == 0) || (y.inf && !x.inf && x.sig == 0)) := by
    cases x.nan <;> cases y.nan <;> cases x.inf <;> cases y.inf <;> simp
  have e3 : (y.inf || x.inf) = (x.inf || y.inf) := Bool.or_comm _ _
  rw [e1, e2, e3, Int.add_comm y.exp, Nat.mul_comm y.sig]

/-- a float that is its own Canon -/
def okR (r : Nat) : Prop := r < 4294967296 ∧ (r = 2143289344 ∨ r % 2147483648 ≤ 2139095040)
theorem okR.canon {r : Nat} (h : okR r) : canonP r = r := by
  unfold canonP nanP
  rcases h.2 with e | e
  · subst e; rfl
  · rw [decide_eq_false (by omega), if_neg (by decide)]
theorem okR.nan : okR 2143289344 := ⟨by decide, .inl rfl⟩
theorem okR.sum (neg : Bool) {k : Nat} (h : k ≤ 2139095040) : okR (sgn neg + k) := by
  unfold okR
  rcases sgn_two neg with e | e <;> rw [e] <;> omega
theorem okR.sgn (neg : Bool) : okR (sgn neg) := by
  have := okR.sum neg (k := 0) (by omega)
  simpa using this
theorem okR.huge (way : Int) (neg : Bool) : okR (hugeP way neg) := by
  unfold hugeP
  refine okR.sum neg ?_
  split <;> omega
theorem okR.finU (way : Int) (neg : Bool) (o : Nat) : okR (finU way neg o) := by
  unfold Go.Proofs.Ytanccobllehnaaa.finU
  split
  · exact okR.huge _ _
  · exact okR.sum neg (by omega)
theorem okR.round (way : Int) (neg : Bool) (exp : Int) (sig : Nat) (more : Bool) : okR (roundP way neg exp sig more) := by
  unfold roundP
  split
  · exact okR.sgn _
  · split
    · unfold tinyP
      refine okR.sum neg ?_
      split <;> omega
    · split
      · exact okR.huge _ _
      · dsimp only
        split
        · exact okR.finU _ _ _
        · split
          · exact okR.finU _ _ _
          · exact okR.finU _ _ _
theorem okR.core (way : Int) (x y : Num) : okR (coreN way x y) := by
  unfold coreN
  dsimp only
  split
  · split
    · exact okR.round _ _ _ _ _
    · split
      · exact okR.sgn _
      · split
        · exact okR.round _ _ _ _ _
        · exact okR.round _ _ _ _ _
  · split
    · exact okR.round _ _ _ _ _
    · split
      · exact okR.round _ _ _ _ _
      · exact okR.round _ _ _ _ _
theorem okR.add (way : Int) {a b : Nat} (ha : a < 4294967296) (hb : b < 4294967296) : okR (addP way a b) := by
  unfold addP
  obtain ⟨x, hx⟩ : ∃ x, openN a = x := ⟨_, rfl⟩
  obtain ⟨y, hy⟩ : ∃ y, openN b = y := ⟨_, rfl⟩
  have ix := open_inf ha hx
  have iy := open_inf hb hy
  have zx := open_zero ha hx
  rw [hx, hy]
  unfold addN
  split
  · exact okR.nan
  · rename_i hn
    split
    · rename_i h1; rw [ix h1]; exact okR.sum _ (Nat.le_refl _)
    · rename_i h1
      split
      · rename_i h2; rw [iy h2]; exact okR.sum _ (Nat.le_refl _)
      · split
        · rename_i hz
          split
          · have hxn : x.nan = false := by cases h : x.nan <;> simp [h] at hn ⊢
            rw [zx hxn (by simpa using h1) hz.1]; exact okR.sgn _
          · exact okR.sgn _
        · split
          · exact okR.core _ _ _
          · exact okR.core _ _ _
theorem okR.mul (way : Int) (a b : Nat) : okR (mulP way a b) := by
  unfold mulP mulN
  split
  · exact okR.nan
  · split
    · exact okR.sum _ (Nat.le_refl _)
    · exact okR.round _ _ _ _ _
theorem okR.div (way : Int) (a b : Nat) : okR (divP way a b) := by
  unfold divP divN
  split
  · exact okR.nan
  · split
    · exact okR.sum _ (Nat.le_refl _)
    · split
      · exact okR.sgn _
      · exact okR.round _ _ _ _ _
theorem open_neg {a : Nat} (h : a < 4294967296) : openN (negP a) = ⟨!(openN a).neg, (openN a).nan, (openN a).inf, (openN a).exp, (openN a).sig⟩ := by
  have e1 : negP a / 8388608 % 256 = a / 8388608 % 256 := by unfold negP; split <;> omega
  have e2 : negP a % 8388608 = a % 8388608 := by unfold negP; split <;> omega
  have e3 : decide (2147483648 ≤ negP a) = !decide (2147483648 ≤ a) := by
    unfold negP
    by_cases hh : a < 2147483648
    · rw [if_pos hh, decide_eq_true (by omega), decide_eq_false (by omega)]; rfl
    · rw [if_neg hh, decide_eq_false (by omega), decide_eq_true (by omega)]; rfl
  unfold openN
  rw [e1, e2, e3]
  split
  · rfl
  · split <;> rfl
theorem open_nan (a : Nat) : (openN a).nan = nanP a ∧ (openN a).inf = infP a := by
  unfold openN nanP infP
  by_cases h1 : a / 8388608 % 256 = 255
  · rw [if_pos h1]
    constructor
    · show decide (a % 8388608 ≠ 0) = _
      congr 1; apply propext; omega
    · show decide (a % 8388608 = 0) = _
      congr 1; apply propext; omega
  · rw [if_neg h1]
    have e1 : decide (2139095040 < a % 2147483648) = false := decide_eq_false (by omega)
    have e2 : decide (a % 2147483648 = 2139095040) = false := decide_eq_false (by omega)
    rw [e1, e2]
    split <;> exact ⟨rfl, rfl⟩
theorem sub_self {a : Nat} (h : a < 4294967296) (hn : nanP a = false) (hi : infP a = false) : addP 0 a (negP a) = 0 := by
  obtain ⟨o1, o2⟩ := open_nan a
  rw [hn] at o1
  rw [hi] at o2
  have hne : a ≠ negP a := by unfold negP; split <;> omega
  unfold addP
  rw [open_neg h]
  generalize openN a = x at *
  unfold addN
  simp only [o1, o2, Bool.or_self, Bool.and_self, Bool.false_and, Bool.false_eq_true, if_false, and_self, hne, Int.lt_irrefl]
  split
  · rfl
  · unfold coreN
    simp only [Int.sub_self, Int.toNat_zero, Nat.zero_le, if_true]
    rw [if_neg (by cases x.neg <;> simp), if_pos (show x.sig * two 0 = x.sig from Nat.mul_one _)]
    rfl
set_option maxRecDepth 100000 in
theorem canon_any (a : Nat) (w : World) (h : a < 4294967296) : Calls Try.prog 40 #[.int .u32 (a : Int)] w fun e w' => e = .returned (.int .u32 (canonP a : Int)) ∧ w' = w := by
  have HA := Lib.hid h
  clear h
  cases ha : nanP a
  all_goals
    have HNA := Lib.hid ha
    clear ha
    go_enter Try.func40, Try.ntmps40
    go_wp2_with fail
    refine (nan_at HA HNA).mono ?_
    rintro e w' ⟨rfl, rfl⟩
    go_wp2
    go_ret
  · exact ⟨by rw [show canonP a = a from by unfold canonP; rw [HNA.out]; rfl]; rfl, rfl⟩
  · exact ⟨by rw [show canonP a = 2143289344 from by unfold canonP; rw [HNA.out]; rfl]; rfl, rfl⟩
end Go.Proofs.Ytanccobllehnaaa
