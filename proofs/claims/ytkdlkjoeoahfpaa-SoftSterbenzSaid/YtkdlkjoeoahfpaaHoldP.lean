/- Plain: down, nearest, up stand as they must; and the contract of the statement's own check. -/
import Derived.Test.YtkdlkjoeoahfpaaKeepQ
import Derived.Test.YtkdlkjoeoahfpaaLooks2
namespace Go.Proofs.Ytkdlkjoeoahfpaa
open Go.RowKit

def nextP (a : Nat) : Nat := if a % 2147483648 = 0 then 1 else if 2147483648 ≤ a then a - 1 else a + 1
structure HT (d n h : Nat) : Prop where
  nd : nanP d = false
  nn : nanP n = false
  nh : nanP h = false
  dn : placeP d ≤ placeP n
  nh' : placeP n ≤ placeP h
  near : placeP d = placeP h ∨ (nanP (nextP d) = false ∧ placeP (nextP d) = placeP h)
/-- three answers by the three ways -/
def HH (d n h : Nat) : Prop := (nanP d = true ∧ d = n ∧ n = h) ∨ HT d n h
theorem nan_sgn (neg : Bool) {k : Nat} (h : k ≤ 2139095040) : nanP (sgn neg + k) = false := by
  unfold nanP
  rcases sgn_two neg with e | e <;> rw [e] <;> exact decide_eq_false (by omega)
theorem place_sum (neg : Bool) {k : Nat} (h : k ≤ 2139095040) : placeP (sgn neg + k) = if neg then -(k : Int) else (k : Int) := by
  unfold placeP sgn
  cases neg
  · simp only [Bool.false_eq_true, if_false, Nat.zero_add]
    rw [if_neg (by omega), Nat.mod_eq_of_lt (by omega)]
  · simp only [if_true]
    rw [if_pos (by omega), show (2147483648 + k) % 2147483648 = k from by omega]
theorem HH.pos {x y z : Nat} (h1 : x ≤ y) (h2 : y ≤ z) (h3 : z ≤ x + 1) (h4 : z ≤ 2139095040) : HH (sgn false + x) (sgn false + y) (sgn false + z) := by
  refine .inr ⟨nan_sgn _ (by omega), nan_sgn _ (by omega), nan_sgn _ (by omega), ?_, ?_, ?_⟩
  · rw [place_sum _ (by omega), place_sum _ (by omega)]; simp; omega
  · rw [place_sum _ (by omega), place_sum _ (by omega)]; simp; omega
  · by_cases e : x = z
    · left; rw [e]
    · right
      have hz : z = x + 1 := by omega
      have hn : nextP (sgn false + x) = sgn false + z := by
        unfold nextP
        rw [show sgn false + x = x from Nat.zero_add x, show sgn false + z = z from Nat.zero_add z]
        split
        · omega
        · rw [if_neg (by omega)]; exact hz.symm
      rw [hn]
      exact ⟨nan_sgn _ h4, rfl⟩
theorem HH.neg {x y z : Nat} (h1 : z ≤ y) (h2 : y ≤ x) (h3 : x ≤ z + 1) (h4 : x ≤ 2139095040) : HH (sgn true + x) (sgn true + y) (sgn true + z) := by
  refine .inr ⟨nan_sgn _ (by omega), nan_sgn _ (by omega), nan_sgn _ (by omega), ?_, ?_, ?_⟩
  · rw [place_sum _ (by omega), place_sum _ (by omega)]; simp; omega
  · rw [place_sum _ (by omega), place_sum _ (by omega)]; simp; omega
  · by_cases e : x = z
    · left; rw [e]
    · right
      have hz : x = z + 1 := by omega
      have hn : nextP (sgn true + x) = sgn true + z := by
        unfold nextP
        have e2 : ∀ k, sgn true + k = 2147483648 + k := fun _ => rfl
        rw [e2, e2, if_neg (by omega), if_pos (by omega)]
        omega
      rw [hn]
      exact ⟨nan_sgn _ (by omega), rfl⟩
theorem HH.same {r : Nat} (h : okR r) : HH r r r := by
  rcases h.2 with e | e
  · subst e; exact .inl ⟨rfl, rfl, rfl⟩
  · have hn : nanP r = false := by unfold nanP; exact decide_eq_false (by omega)
    exact .inr ⟨hn, hn, hn, Int.le_refl _, Int.le_refl _, .inl rfl⟩
theorem HH.huge (neg : Bool) : HH (hugeP 2 neg) (hugeP 0 neg) (hugeP 1 neg) := by
  cases neg
  · exact HH.pos (x := 2139095039) (y := 2139095040) (z := 2139095040) (by omega) (by omega) (by omega) (by omega)
  · exact HH.neg (x := 2139095040) (y := 2139095040) (z := 2139095039) (by omega) (by omega) (by omega) (by omega)
theorem HH.tiny (neg : Bool) : HH (tinyP 2 neg) (tinyP 0 neg) (tinyP 1 neg) := by
  cases neg
  · exact HH.pos (x := 0) (y := 0) (z := 1) (by omega) (by omega) (by omega) (by omega)
  · exact HH.neg (x := 1) (y := 0) (z := 0) (by omega) (by omega) (by omega) (by omega)
theorem HH.ends (neg : Bool) (m : Nat) {rest above tie : Bool} (h1 : above = true → rest = true) (h2 : tie = true → rest = true) : HH (fin 2 neg m rest above tie) (fin 0 neg m rest above tie) (fin 1 neg m rest above tie) := by
  by_cases hm : 2139095040 ≤ m
  · have e : ∀ way, fin way neg m rest above tie = hugeP way neg := fun way => by
      unfold Go.Proofs.Ytkdlkjoeoahfpaa.fin
      refine finU_huge ?_
      split <;> omega
    rw [e, e, e]
    exact HH.huge neg
  · have hup : ∀ u : Bool, m ≤ (if u = true then m + 1 else m) ∧ (if u = true then m + 1 else m) ≤ m + 1 := fun u => by cases u <;> simp
    have hF : ∀ {way : Int} {o : Nat}, o ≤ m + 1 → (o = m + 1 → ¬ inw way neg = true) → finU way neg o = sgn neg + o := fun {way o} h h' => by
      by_cases e : o = m + 1
      · subst e; exact finU_up (by omega) (h' rfl)
      · exact finU_lt (by omega)
    have u0 : upB 0 neg m rest above tie = (above || (tie && m % 2 == 1)) := by unfold upB; simp
    have u1 : upB 1 neg m rest above tie = (rest && outw 1 neg) := by unfold upB; simp
    have u2 : upB 2 neg m rest above tie = (rest && outw 2 neg) := by unfold upB; simp
    have hur : (above || (tie && m % 2 == 1)) = true → rest = true := fun h => by
      rcases Bool.or_eq_true_iff.1 h with h | h
      · exact h1 h
      · exact h2 (Bool.and_eq_true_iff.1 h).1
    unfold Go.Proofs.Ytkdlkjoeoahfpaa.fin
    rw [u0, u1, u2]
    generalize (above || (tie && m % 2 == 1)) = u at *
    cases neg
    · have o1 : outw 1 false = true := rfl
      have o2 : outw 2 false = false := rfl
      rw [o1, o2, Bool.and_true, Bool.and_false]
      rw [if_neg (by decide : ¬ (false = true)), hF (by omega) (by omega), hF (hup u).2 (fun _ => by decide), hF (hup rest).2 (fun _ => by decide)]
      refine HH.pos (hup u).1 ?_ (hup rest).2 (by have := (hup rest).2; omega)
      cases u
      · exact (hup rest).1
      · rw [hur rfl]; exact Nat.le_refl _
    · have o1 : outw 1 true = false := rfl
      have o2 : outw 2 true = true := rfl
      rw [o1, o2, Bool.and_true, Bool.and_false]
      rw [if_neg (by decide : ¬ (false = true)), hF (hup rest).2 (fun _ => by decide), hF (hup u).2 (fun _ => by decide), hF (by omega) (by omega)]
      refine HH.neg (hup u).1 ?_ (hup rest).2 (by have := (hup rest).2; omega)
      cases u
      · exact (hup rest).1
      · rw [hur rfl]; exact Nat.le_refl _
theorem HH.round (neg : Bool) (exp : Int) (sig : Nat) (more : Bool) : HH (roundP 2 neg exp sig more) (roundP 0 neg exp sig more) (roundP 1 neg exp sig more) := by
  unfold roundP
  by_cases h1 : sig = 0 ∧ more = false
  · rw [if_pos h1, if_pos h1, if_pos h1]; exact HH.same (okR.sgn _)
  · rw [if_neg h1, if_neg h1, if_neg h1]
    by_cases h2 : sig = 0 ∨ exp < -300
    · rw [if_pos h2, if_pos h2, if_pos h2]; exact HH.tiny neg
    · rw [if_neg h2, if_neg h2, if_neg h2]
      by_cases h3 : 200 < exp
      · rw [if_pos h3, if_pos h3, if_pos h3]; exact HH.huge neg
      · rw [if_neg h3, if_neg h3, if_neg h3]
        dsimp only
        generalize max ((blen sig : Int) - 24) (-149 - exp) = drop
        by_cases h4 : drop ≤ 0
        · rw [if_pos h4, if_pos h4, if_pos h4]; exact HH.ends neg _ (by simp) (by simp)
        · rw [if_neg h4, if_neg h4, if_neg h4]
          by_cases h5 : (blen sig : Int) < drop
          · rw [if_pos h5, if_pos h5, if_pos h5]; exact HH.ends neg _ (by simp) (by simp)
          · rw [if_neg h5, if_neg h5, if_neg h5]
            have hp := two_pos (drop.toNat - 1)
            refine HH.ends neg _ ?_ ?_
            · intro h
              have : sig % two drop.toNat ≠ 0 := by
                rcases Bool.or_eq_true_iff.1 h with h | h
                · have := of_decide_eq_true h; omega
                · have := of_decide_eq_true (Bool.and_eq_true_iff.1 h).1; omega
              rw [decide_eq_true this]; rfl
            · intro h
              have : sig % two drop.toNat ≠ 0 := by
                have := of_decide_eq_true (Bool.and_eq_true_iff.1 h).1; omega
              rw [decide_eq_true this]; rfl
theorem HH.nought : HH (sgn ((2 : Int) == 2)) (sgn ((0 : Int) == 2)) (sgn ((1 : Int) == 2)) :=
  .inr ⟨rfl, rfl, rfl, Int.le_refl _, Int.le_refl _, .inl rfl⟩
theorem HH.core (x y : Num) : HH (coreN 2 x y) (coreN 0 x y) (coreN 1 x y) := by
  unfold coreN
  dsimp only
  by_cases h1 : (x.exp - y.exp).toNat ≤ 38
  · simp only [if_pos h1]
    by_cases h2 : x.neg = y.neg
    · simp only [if_pos h2]; exact HH.round _ _ _ _
    · simp only [if_neg h2]
      by_cases h3 : x.sig * two (x.exp - y.exp).toNat = y.sig
      · simp only [if_pos h3]; exact HH.nought
      · simp only [if_neg h3]
        by_cases h4 : y.sig < x.sig * two (x.exp - y.exp).toNat
        · simp only [if_pos h4]; exact HH.round _ _ _ _
        · simp only [if_neg h4]; exact HH.round _ _ _ _
  · simp only [if_neg h1]
    by_cases h2 : x.neg = y.neg
    · simp only [if_pos h2]; exact HH.round _ _ _ _
    · simp only [if_neg h2]
      by_cases h3 : y.sig % two ((x.exp - y.exp).toNat - 38) ≠ 0
      · simp only [if_pos h3]; exact HH.round _ _ _ _
      · simp only [if_neg h3]; exact HH.round _ _ _ _
theorem HH.add {a b : Nat} (ha : a < 4294967296) (hb : b < 4294967296) : HH (addP 2 a b) (addP 0 a b) (addP 1 a b) := by
  have o2 := okR.add 2 ha hb
  revert o2
  unfold addP addN
  generalize hx : openN a = x
  generalize hy : openN b = y
  by_cases h1 : (x.nan || y.nan || (x.inf && y.inf && x.neg != y.neg)) = true
  · simp only [if_pos h1]; exact fun o => HH.same o
  · simp only [if_neg h1]
    by_cases h2 : x.inf = true
    · simp only [if_pos h2]; exact fun o => HH.same o
    · simp only [if_neg h2]
      by_cases h3 : y.inf = true
      · simp only [if_pos h3]; exact fun o => HH.same o
      · simp only [if_neg h3]
        by_cases h4 : x.sig = 0 ∧ y.sig = 0
        · simp only [if_pos h4]
          by_cases h5 : a = b
          · simp only [if_pos h5]; exact fun o => HH.same o
          · simp only [if_neg h5]; exact fun _ => HH.nought
        · simp only [if_neg h4]
          by_cases h5 : x.exp < y.exp
          · simp only [if_pos h5]; exact fun _ => HH.core _ _
          · simp only [if_neg h5]; exact fun _ => HH.core _ _
theorem HH.mul (a b : Nat) : HH (mulP 2 a b) (mulP 0 a b) (mulP 1 a b) := by
  unfold mulP mulN
  generalize openN a = x
  generalize openN b = y
  split
  · exact HH.same okR.nan
  · split
    · exact HH.same (okR.sum _ (Nat.le_refl _))
    · exact HH.round _ _ _ _
theorem HH.div (a b : Nat) : HH (divP 2 a b) (divP 0 a b) (divP 1 a b) := by
  unfold divP divN
  generalize openN a = x
  generalize openN b = y
  split
  · exact HH.same okR.nan
  · split
    · exact HH.same (okR.sum _ (Nat.le_refl _))
    · split
      · exact HH.same (okR.sgn _)
      · exact HH.round _ _ _ _
end Go.Proofs.Ytkdlkjoeoahfpaa
