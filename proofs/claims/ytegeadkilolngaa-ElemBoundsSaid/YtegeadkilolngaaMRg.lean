import Derived.Test.YtegeadkilolngaaMRdB
import Derived.Test.YtegeadkilolngaaMRef
import Derived.Test.YtegeadkilolngaaMNat
import Derived.Test.YtegeadkilolngaaMRdA
/- The document's Scale: plain law and contract. -/
namespace Go.Proofs.Ytegeadkilolngaa
open Go.RowKit

def clipK (k : Int) : Int := min (max k (-700)) 700
theorem sig_clip {nb : Bool} {e k : Int} {s : Nat} (hs : 0 < s) (he : -149 ≤ e ∧ e ≤ 104) : roundP 0 nb (e + max (-1000) (min k 1000)) s false = roundP 0 nb (e + clipK k) s false := by
  unfold clipK
  by_cases h1 : k < -700
  · unfold roundP
    rw [if_neg (by omega), if_pos (.inr (by omega)), if_neg (by omega), if_pos (.inr (by omega))]
  · by_cases h2 : 700 < k
    · unfold roundP
      rw [if_neg (by omega), if_neg (by omega), if_pos (by omega), if_neg (by omega), if_neg (by omega), if_pos (by omega)]
    · rw [show max (-1000) (min k 1000) = min (max k (-700)) 700 from by omega]
theorem scale_up {nb : Bool} {e : Int} {s i K : Nat} (hs : 0 < s) (hs24 : s < 16777216) (hi : e + 149 = (i : Int)) : roundP 0 nb (e + (K : Int)) s false = rnd 0 nb (two K * (s * two i)) 1 := by
  refine round_rnd hs (by omega) (by decide) ?_
  unfold RV
  rw [show (-(e + (K : Int) + 149)).toNat = 0 from by omega, show (e + (K : Int) + 149).toNat = i + K from by omega]
  simp only [Nat.mul_one, Bool.false_eq_true, if_false, show two 0 = 1 from rfl]
  rw [two_add, Nat.mul_comm (two K), Nat.mul_assoc]
theorem scale_down {nb : Bool} {e : Int} {s i K : Nat} (hs : 0 < s) (hs24 : s < 16777216) (hi : e + 149 = (i : Int)) : roundP 0 nb (e + -(K : Int)) s false = rnd 0 nb (s * two i) (two K) := by
  refine round_rnd hs (by omega) (two_pos _) ?_
  unfold RV
  simp only [Bool.false_eq_true, if_false]
  rw [Nat.mul_assoc, ← two_add, ← two_add]
  congr 2
  omega
theorem big_amt {K x : Nat} (hK : K ≤ 700) (hx : x ≤ 2139095040) : two K * amt x < two 10000 := by
  have h1 : two K * amt x ≤ two K * two 277 := Nat.mul_le_mul_left _ (amt_le hx)
  rw [← two_add] at h1
  have h2 := two_le (show K + 277 + 1 ≤ 10000 by omega)
  have h3 := two_pos (K + 277)
  rw [two_succ] at h2
  omega
theorem sbig_two {K : Nat} (hK : K ≤ 9000) : two K < two 10000 := by
  have h2 := two_le (show K + 1 ≤ 10000 by omega)
  have h3 := two_pos K
  rw [two_succ] at h2
  omega
end Go.Proofs.Ytegeadkilolngaa

/- The document's FromIntBy and FromInt. -/
namespace Go.Proofs.Ytegeadkilolngaa
open Go.RowKit

theorem from_law {way : Int} {neg : Bool} {m : Nat} (hm : m < 18446744073709551616) : roundP way neg 0 m false = if m = 0 then sgn neg else rnd way neg (two 149 * m) 1 := by
  by_cases h0 : m = 0
  · subst h0
    rw [if_pos rfl]
    unfold roundP
    rw [if_pos ⟨rfl, rfl⟩]
  · rw [if_neg h0]
    refine round_rnd (by omega) hm (by decide) ?_
    unfold RV
    simp only [Nat.mul_one, Bool.false_eq_true, if_false]
    rw [show ((0 : Int) + 149).toNat = 149 from rfl, show (-((0 : Int) + 149)).toNat = 0 from rfl, show two 0 = 1 from rfl, Nat.mul_one]
    exact Nat.mul_comm _ _
theorem big_m {m : Nat} (h : m < 18446744073709551616) : m < two 10000 := Nat.lt_of_lt_of_le (show m < two 64 from h) (two_le (by omega))
theorem big_149m {m : Nat} (h : m < 18446744073709551616) : two 149 * m < two 10000 := by
  have h1 : two 149 * m ≤ two 149 * two 64 := Nat.mul_le_mul_left _ (Nat.le_of_lt h)
  rw [← two_add] at h1
  have h2 := two_le (show 149 + 64 + 1 ≤ 10000 by omega)
  have h3 := two_pos (149 + 64)
  rw [two_succ] at h2
  omega
end Go.Proofs.Ytegeadkilolngaa

/- The document's cut and ToInt. -/
namespace Go.Proofs.Ytegeadkilolngaa
open Go.RowKit

/-- cut, by the exponent's bits -/
def cutV (s E : Nat) : Nat := if 150 ≤ E then s * two (E - 150) else s / two (150 - E)
theorem cutA_V {a E s : Nat} (hE : oE a = (E : Int) - 150) (hs : oS a = s) : cutA a = cutV s E := by
  unfold cutA cutV
  rw [hE, hs]
  by_cases h : 150 ≤ E
  · rw [if_pos (by omega), if_pos h, show ((E : Int) - 150).toNat = E - 150 from by omega]
  · rw [if_neg (by omega), if_neg h, show (-((E : Int) - 150)).toNat = 150 - E from by omega]
def C1rel (s E : Nat) (w : World) (ev fv : Value) (wr : World) : Prop := ∃ j F : Nat, ev = .int .i64 ((E : Int) - (j : Int)) ∧ fv = .int .u64 (F : Int) ∧ Hid (F = s * two j) ∧ (j = 0 ∨ 150 + j ≤ E) ∧ wr = w
def C2rel (F1 E1 : Nat) (w : World) (ev fv : Value) (wr : World) : Prop := ∃ j F : Nat, ev = .int .i64 ((E1 : Int) + (j : Int)) ∧ fv = .int .u64 (F : Int) ∧ Hid (F = F1 / two j) ∧ E1 + j ≤ 150 ∧ wr = w
theorem cut_steps {s E j i F : Nat} (hj : j = 0 ∨ 150 + j ≤ E) (he : E ≤ 150 + j) (hF : F = s * two j / two i) (h : E - j + i = 150 ∨ (E - j + i ≤ 150 ∧ F = 0)) : F = cutV s E := by
  unfold cutV
  by_cases h0 : j = 0
  · subst h0
    rw [show two 0 = 1 from rfl, Nat.mul_one] at hF
    by_cases hE : 150 ≤ E
    · have hi : i = 0 := by omega
      rw [if_pos hE, hF, hi, show E - 150 = 0 from by omega, show two 0 = 1 from rfl, Nat.div_one, Nat.mul_one]
    · rw [if_neg hE]
      rcases h with h | ⟨h, h'⟩
      · rw [hF]; congr 2; omega
      · rw [h']
        rw [h'] at hF
        have h1 : s < two i := by
          rcases Nat.lt_or_ge s (two i) with hh | hh
          · exact hh
          · have := Nat.div_pos hh (two_pos i)
            omega
        have h2 := two_le (show i ≤ 150 - E by omega)
        exact (Nat.div_eq_of_lt (by omega)).symm
  · have hE : E - j = 150 := by omega
    have hi : i = 0 := by omega
    rw [if_pos (by omega), hF, hi, show two 0 = 1 from rfl, Nat.div_one, show E - 150 = j from by omega]
theorem two_bound {s j E : Nat} (hs : s < 16777216) (hE : E < 190) (hj : j = 0 ∨ 150 + j ≤ E) : s * two j < 9223372036854775808 := by
  have h1 := two_le (show j ≤ 39 by omega)
  have h2 : s * two j ≤ 16777215 * two 39 := Nat.mul_le_mul (by omega) h1
  have h3 : two 39 = 549755813888 := rfl
  omega
set_option maxRecDepth 100000 in
set_option maxHeartbeats 1600000 in
theorem rcut_any (a : Nat) (w : World) (h : Hid (a < 4294967296)) :
    Calls Try.prog 73 #[.int .u32 (a : Int)] w fun e w' => (1593835520 ≤ absP a → e = .returned (.tuple #[.int .u64 0, .bool true])) ∧ (absP a < 1593835520 → e = .returned (.tuple #[.int .u64 (cutA a : Int), .bool false])) ∧ w' = w := by
  obtain ⟨x, hx⟩ : ∃ x, absP a = x := ⟨_, rfl⟩
  have HX := Lib.hid hx
  have hxl : x < 2147483648 := by rw [← hx]; unfold absP; omega
  have hfx : a % 8388608 = x % 8388608 := by rw [← hx]; unfold absP; omega
  have hex : a / 8388608 % 256 = x / 8388608 := by rw [← hx]; unfold absP; omega
  obtain ⟨E0, hE0⟩ : ∃ e, x / 8388608 = e := ⟨_, rfl⟩
  obtain ⟨f0, hf0⟩ : ∃ f, x % 8388608 = f := ⟨_, rfl⟩
  have q1 : (x : Int) / 8388608 = (E0 : Int) := by omega
  have q2 : (a : Int) % 8388608 = (f0 : Int) := by omega
  have hf1 : f0 < 8388608 := by omega
  have hE1 : E0 < 256 := by omega
  by_cases hbig : 1593835520 ≤ x
  · have HBIG := Lib.hid hbig
    have hc : decide ((190 : Int) ≤ (E0 : Int)) = true := decide_eq_true (by omega)
    rw [hx]
    clear hx hxl hfx hex hE0 hf0 hbig
    go_enter Try.func73, Try.ntmps73
    go_wp2_with fail
    refine (rabs_at h HX).mono ?_
    rintro e' w' ⟨rfl, rfl⟩
    go_wp2
    go_ret2
    exact ⟨fun _ => rfl, fun h => by have := HBIG.out; omega, rfl⟩
  have HBIG := Lib.hid hbig
  have hc : decide ((190 : Int) ≤ (E0 : Int)) = false := decide_eq_false (by omega)
  have hE190 : E0 < 190 := by omega
  obtain ⟨E, s, hEE, hEs, hss, hE2, HCV, hpos⟩ : ∃ E s : Nat, E = (if E0 = 0 then 1 else E0) ∧ s = (if E0 = 0 then f0 else f0 + 8388608) ∧ s < 16777216 ∧ E < 190 ∧ Hid (cutA a = cutV s E) ∧ 1 ≤ E := by
    refine ⟨_, _, rfl, rfl, ?_, ?_, ?_, ?_⟩
    · split <;> omega
    · split <;> omega
    · refine Lib.hid (cutA_V ?_ ?_)
      · unfold oE; rw [hex, hE0]; split <;> rfl
      · unfold oS; rw [hex, hE0, hfx, hf0]
    · split <;> omega
  rw [hx]
  have HEE := Lib.hid hEE
  have HES := Lib.hid hEs
  clear hx hxl hfx hex hE0 hf0 hbig hEE hEs
  have hB : Hid (∀ j, (j = 0 ∨ 150 + j ≤ E) → s * two j < 9223372036854775808) := Lib.hid fun j hj => two_bound hss hE2 hj
  by_cases he0 : E0 = 0
  · have HE1 : Hid (E = 1 ∧ s = f0) := Lib.hid (by rw [HEE.out, HES.out, if_pos he0, if_pos he0]; exact ⟨rfl, rfl⟩)
    have c0 : ¬ (0 : Int) < (E0 : Int) := by omega
    clear HEE HES he0
    go_enter Try.func73, Try.ntmps73
    go_wp2_with fail
    refine (rabs_at h HX).mono ?_
    rintro e' w' ⟨rfl, rfl⟩
    go_wp2
    go_loopw [4, 5] (fun ev fv wr => C1rel s E w' ev fv wr) (fun ev _ _ => (intOf ev).toNat)
    case atStart => exact ⟨0, f0, by rw [HE1.out.1]; simp, rfl, Lib.hid (by rw [HE1.out.2, show two 0 = 1 from rfl, Nat.mul_one]), .inl rfl, rfl⟩
    case round =>
      obtain ⟨j, Fv, rfl, rfl, HF, hj, rfl⟩ := hrel
      have hFl : Fv < 9223372036854775808 := by rw [HF.out]; exact hB.out j hj
      by_cases hgt : 150 + j < E
      · have hg : (150 : Int) < (E : Int) - (j : Int) := by omega
        have h2F : Fv * 2 < 9223372036854775808 := by
          have := hB.out (j + 1) (by omega)
          rw [two_succ, Nat.mul_left_comm, ← HF.out] at this
          omega
        have hmul : ((Fv : Int) * 2) = ((Fv * 2 : Nat) : Int) := by simp
        obtain ⟨F2, hF2⟩ : ∃ x, Fv * 2 = x := ⟨_, rfl⟩
        rw [hF2] at hmul h2F
        have HF2 : Hid (F2 = s * two (j + 1)) := Lib.hid (by rw [two_succ, Nat.mul_left_comm, ← HF.out]; omega)
        have HL := Lib.hid h2F
        have HL2 := Lib.hid hFl
        have hwr : IntKind.u64.wrap (F2 : Int) = (F2 : Int) := wrap64_nat (by omega)
        have HJ : Hid (j + 1 = 0 ∨ 150 + (j + 1) ≤ E) := Lib.hid (by omega)
        clear h2F hFl hF2 hj
        go_wp2
        go_roundw
        case rel => exact ⟨j + 1, F2, by go_num, rfl, HF2, HJ.out, rfl⟩
        case measure => simp [intOf]; omega
      · have hg : ¬ (150 : Int) < (E : Int) - (j : Int) := by omega
        obtain ⟨E1, hE1⟩ : ∃ E1 : Nat, (E : Int) - (j : Int) = (E1 : Int) := ⟨E - j, by omega⟩
        have HJ := Lib.hid (show (j = 0 ∨ 150 + j ≤ E) ∧ E ≤ 150 + j ∧ E1 = E - j from ⟨hj, by omega, by omega⟩)
        have hE150 : E1 ≤ 150 := by omega
        rw [hE1]
        rw [hE1] at hg
        have HFl := Lib.hid hFl
        clear hgt hE1 hj hFl
        go_wp2
        go_loopw [4, 5] (fun ev fv wq => C2rel Fv E1 wr ev fv wq) (fun ev _ _ => (150 - intOf ev).toNat)
        case atStart => exact ⟨0, Fv, by simp, rfl, Lib.hid (by rw [show two 0 = 1 from rfl, Nat.div_one]), by omega, rfl⟩
        case round =>
          obtain ⟨i, G, rfl, rfl, HG, hi, rfl⟩ := hrel
          have hGl : G < 9223372036854775808 := by rw [HG.out]; exact Nat.lt_of_le_of_lt (Nat.div_le_self _ _) HFl.out
          by_cases hlt : E1 + i < 150
          · have hl : (E1 : Int) + (i : Int) < 150 := by omega
            by_cases hp : 0 < G
            · have hp' : (0 : Int) < (G : Int) := by omega
              have hdiv : (G : Int) / 2 = ((G / 2 : Nat) : Int) := by omega
              obtain ⟨G2, hG2⟩ : ∃ x, G / 2 = x := ⟨_, rfl⟩
              rw [hG2] at hdiv
              have HG2 : Hid (G2 = Fv / two (i + 1)) := Lib.hid (by rw [← hG2, HG.out, two_succ, Nat.mul_comm 2, Nat.div_div_eq_div_mul])
              have HI : Hid (E1 + (i + 1) ≤ 150) := Lib.hid (by omega)
              have hwr : IntKind.u64.wrap (G2 : Int) = (G2 : Int) := wrap64_nat (by omega)
              clear hGl hG2 hi
              go_wp2
              go_roundw
              case rel => exact ⟨i + 1, G2, by go_num, rfl, HG2, HI.out, rfl⟩
              case measure => simp [intOf]; omega
            · have hp' : ¬ (0 : Int) < (G : Int) := by omega
              have HR : Hid (cutA a = G) := Lib.hid (by
                rw [HCV.out]
                obtain ⟨j1, j2, j3⟩ := HJ.out
                exact (cut_steps j1 j2 (by rw [← HF.out]; exact HG.out) (.inr (by omega))).symm)
              clear hGl
              go_wp2
              go_ret2
              exact ⟨fun h => by have := HBIG.out; omega, fun _ => by rw [HR.out]; try rfl, rfl⟩
          · have hl : ¬ (E1 : Int) + (i : Int) < 150 := by omega
            have HR : Hid (cutA a = G) := Lib.hid (by
              rw [HCV.out]
              obtain ⟨j1, j2, j3⟩ := HJ.out
              exact (cut_steps j1 j2 (by rw [← HF.out]; exact HG.out) (.inl (by omega))).symm)
            clear hGl
            go_wp2
            go_ret2
            exact ⟨fun h => by have := HBIG.out; omega, fun _ => by rw [HR.out]; try rfl, rfl⟩
  · have HE1 : Hid (E = E0 ∧ s = f0 + 8388608) := Lib.hid (by rw [HEE.out, HES.out, if_neg he0, if_neg he0]; exact ⟨rfl, rfl⟩)
    have c0 : (0 : Int) < (E0 : Int) := by omega
    clear HEE HES he0
    go_enter Try.func73, Try.ntmps73
    go_wp2_with fail
    refine (rabs_at h HX).mono ?_
    rintro e' w' ⟨rfl, rfl⟩
    go_wp2
    go_loopw [4, 5] (fun ev fv wr => C1rel s E w' ev fv wr) (fun ev _ _ => (intOf ev).toNat)
    case atStart => exact ⟨0, f0 + 8388608, by rw [HE1.out.1]; simp, by simp, Lib.hid (by rw [HE1.out.2, show two 0 = 1 from rfl, Nat.mul_one]), .inl rfl, rfl⟩
    case round =>
      obtain ⟨j, Fv, rfl, rfl, HF, hj, rfl⟩ := hrel
      have hFl : Fv < 9223372036854775808 := by rw [HF.out]; exact hB.out j hj
      by_cases hgt : 150 + j < E
      · have hg : (150 : Int) < (E : Int) - (j : Int) := by omega
        have h2F : Fv * 2 < 9223372036854775808 := by
          have := hB.out (j + 1) (by omega)
          rw [two_succ, Nat.mul_left_comm, ← HF.out] at this
          omega
        have hmul : ((Fv : Int) * 2) = ((Fv * 2 : Nat) : Int) := by simp
        obtain ⟨F2, hF2⟩ : ∃ x, Fv * 2 = x := ⟨_, rfl⟩
        rw [hF2] at hmul h2F
        have HF2 : Hid (F2 = s * two (j + 1)) := Lib.hid (by rw [two_succ, Nat.mul_left_comm, ← HF.out]; omega)
        have HL := Lib.hid h2F
        have HL2 := Lib.hid hFl
        have hwr : IntKind.u64.wrap (F2 : Int) = (F2 : Int) := wrap64_nat (by omega)
        have HJ : Hid (j + 1 = 0 ∨ 150 + (j + 1) ≤ E) := Lib.hid (by omega)
        clear h2F hFl hF2 hj
        go_wp2
        go_roundw
        case rel => exact ⟨j + 1, F2, by go_num, rfl, HF2, HJ.out, rfl⟩
        case measure => simp [intOf]; omega
      · have hg : ¬ (150 : Int) < (E : Int) - (j : Int) := by omega
        obtain ⟨E1, hE1⟩ : ∃ E1 : Nat, (E : Int) - (j : Int) = (E1 : Int) := ⟨E - j, by omega⟩
        have HJ := Lib.hid (show (j = 0 ∨ 150 + j ≤ E) ∧ E ≤ 150 + j ∧ E1 = E - j from ⟨hj, by omega, by omega⟩)
        have hE150 : E1 ≤ 150 := by omega
        rw [hE1]
        rw [hE1] at hg
        have HFl := Lib.hid hFl
        clear hgt hE1 hj hFl
        go_wp2
        go_loopw [4, 5] (fun ev fv wq => C2rel Fv E1 wr ev fv wq) (fun ev _ _ => (150 - intOf ev).toNat)
        case atStart => exact ⟨0, Fv, by simp, rfl, Lib.hid (by rw [show two 0 = 1 from rfl, Nat.div_one]), by omega, rfl⟩
        case round =>
          obtain ⟨i, G, rfl, rfl, HG, hi, rfl⟩ := hrel
          have hGl : G < 9223372036854775808 := by rw [HG.out]; exact Nat.lt_of_le_of_lt (Nat.div_le_self _ _) HFl.out
          by_cases hlt : E1 + i < 150
          · have hl : (E1 : Int) + (i : Int) < 150 := by omega
            by_cases hp : 0 < G
            · have hp' : (0 : Int) < (G : Int) := by omega
              have hdiv : (G : Int) / 2 = ((G / 2 : Nat) : Int) := by omega
              obtain ⟨G2, hG2⟩ : ∃ x, G / 2 = x := ⟨_, rfl⟩
              rw [hG2] at hdiv
              have HG2 : Hid (G2 = Fv / two (i + 1)) := Lib.hid (by rw [← hG2, HG.out, two_succ, Nat.mul_comm 2, Nat.div_div_eq_div_mul])
              have HI : Hid (E1 + (i + 1) ≤ 150) := Lib.hid (by omega)
              have hwr : IntKind.u64.wrap (G2 : Int) = (G2 : Int) := wrap64_nat (by omega)
              clear hGl hG2 hi
              go_wp2
              go_roundw
              case rel => exact ⟨i + 1, G2, by go_num, rfl, HG2, HI.out, rfl⟩
              case measure => simp [intOf]; omega
            · have hp' : ¬ (0 : Int) < (G : Int) := by omega
              have HR : Hid (cutA a = G) := Lib.hid (by
                rw [HCV.out]
                obtain ⟨j1, j2, j3⟩ := HJ.out
                exact (cut_steps j1 j2 (by rw [← HF.out]; exact HG.out) (.inr (by omega))).symm)
              clear hGl
              go_wp2
              go_ret2
              exact ⟨fun h => by have := HBIG.out; omega, fun _ => by rw [HR.out]; try rfl, rfl⟩
          · have hl : ¬ (E1 : Int) + (i : Int) < 150 := by omega
            have HR : Hid (cutA a = G) := Lib.hid (by
              rw [HCV.out]
              obtain ⟨j1, j2, j3⟩ := HJ.out
              exact (cut_steps j1 j2 (by rw [← HF.out]; exact HG.out) (.inl (by omega))).symm)
            clear hGl
            go_wp2
            go_ret2
            exact ⟨fun h => by have := HBIG.out; omega, fun _ => by rw [HR.out]; try rfl, rfl⟩
set_option maxRecDepth 100000 in
set_option maxHeartbeats 1600000 in
theorem rtoint_any (a : Nat) (w : World) (h : Hid (a < 4294967296)) :
    Calls Try.prog 54 #[.int .u32 (a : Int)] w fun e w' => e = .returned (.int .i64 (toIntP a)) ∧ w' = w := by
  obtain ⟨sa, hsa⟩ : ∃ s, decide (2147483648 ≤ a) = s := ⟨_, rfl⟩
  have SA := Lib.hid hsa
  cases hna : nanP a
  case true =>
    have NA := Lib.hid hna
    have HE : Hid (toIntP a = 0) := Lib.hid (by unfold toIntP; rw [if_pos hna])
    clear hna hsa
    go_enter Try.func54, Try.ntmps54
    go_wp2_with fail
    refine (rnone_at h NA).mono ?_
    rintro e w' ⟨rfl, rfl⟩
    go_wp2
    go_ret
    exact ⟨by rw [HE.out]; try rfl, rfl⟩
  have NA := Lib.hid hna
  have hno : ¬ nanP a = true := by rw [hna]; decide
  by_cases hbig : 1593835520 ≤ absP a
  · have HE : Hid (toIntP a = if sa = true then -9223372036854775808 else 9223372036854775807) := Lib.hid (by unfold toIntP; rw [if_neg hno, if_pos hbig, ← hsa]; rfl)
    have HBIG := Lib.hid hbig
    clear hna hno hsa hbig
    cases sa
    all_goals
      go_enter Try.func54, Try.ntmps54
      go_wp2_with fail
      refine (rnone_at h NA).mono ?_
      rintro e w' ⟨rfl, rfl⟩
      go_wp2_with fail
      refine (rcut_any a _ h).mono ?_
      rintro e w' ⟨hc, -, rfl⟩
      rw [hc HBIG.out]
      clear hc
      go_wp2_with fail
      refine (rbelow_at SA).mono ?_
      rintro e w' ⟨rfl, rfl⟩
      go_wp2
      go_ret
      exact ⟨by rw [HE.out]; try rfl, rfl⟩
  · have hcl := cutA_lt (a := a) (by omega)
    obtain ⟨N, hN⟩ : ∃ n, cutA a = n := ⟨_, rfl⟩
    have HE : Hid (toIntP a = if sa = true then -(N : Int) else (N : Int)) := Lib.hid (by unfold toIntP; rw [if_neg hno, if_neg hbig, ← hsa, hN]; rfl)
    have HBIG := Lib.hid hbig
    have HN := Lib.hid hN
    rw [hN] at hcl
    have hsw : wrap64 (N : Int) = (N : Int) := IntWalk.wrap64_in _ (by omega)
    have hnw : wrap64 (-(N : Int)) = -(N : Int) := IntWalk.wrap64_in _ (by omega)
    have hsw2 : IntKind.i64.wrap (N : Int) = (N : Int) := IntWalk.i64_in _ (by omega)
    have hnw2 : IntKind.i64.wrap (-(N : Int)) = -(N : Int) := IntWalk.i64_in _ (by omega)
    clear hna hno hsa hbig hcl hN
    cases sa
    all_goals
      go_enter Try.func54, Try.ntmps54
      go_wp2_with fail
      refine (rnone_at h NA).mono ?_
      rintro e w' ⟨rfl, rfl⟩
      go_wp2_with fail
      refine (rcut_any a _ h).mono ?_
      rintro e w' ⟨-, hc, rfl⟩
      rw [hc (by have := HBIG.out; omega), HN.out]
      clear hc
      go_wp2_with fail
      refine (rbelow_at SA).mono ?_
      rintro e w' ⟨rfl, rfl⟩
      go_wp2
      go_ret
      exact ⟨by rw [HE.out]; try rfl, rfl⟩
end Go.Proofs.Ytegeadkilolngaa

/- The document's SqrtBy and Sqrt. -/
namespace Go.Proofs.Ytegeadkilolngaa
open Go.RowKit

def QRel (N : Nat) (w : World) (lo hi : Value) (wr : World) : Prop := ∃ l h : Nat, lo = .int .u32 (l : Int) ∧ hi = .int .u32 (h : Int) ∧ l < h ∧ h ≤ 2139095040 ∧ Hid (amt l * amt l ≤ N) ∧ Hid (N < amt h * amt h) ∧ Below w.heap.size w wr
theorem sq_big {x : Nat} (h : x ≤ two 300) : x * x < two 10000 := by
  have h1 : x * x ≤ two 300 * two 300 := Nat.mul_le_mul h h
  rw [← two_add] at h1
  have h2 := two_le (show 300 + 300 + 1 ≤ 10000 by omega)
  have h3 := two_pos (300 + 300)
  rw [two_succ] at h2
  omega
theorem amt300 {m : Nat} (h : m ≤ 2139095040) : amt m ≤ two 300 := Nat.le_trans (amt_le h) (two_le (by omega))
theorem sum300 {m : Nat} (h : m < 2139095040) : amt m + amt (m + 1) ≤ two 300 := Nat.le_trans (amt_two h) (two_le (by omega))
theorem root_top {x : Nat} (h : x < 2139095040) : two 149 * amt x < amt 2139095040 * amt 2139095040 := by
  have h1 := amt_smono h
  have h2 : two 149 ≤ amt 2139095040 := by
    rw [amt_inf, show 8388608 * two 254 = two 277 from by rw [← two_23, ← two_add]]
    exact two_le (by omega)
  have h3 : two 149 * amt x ≤ amt 2139095040 * amt x := Nat.mul_le_mul_right _ h2
  have h4 : amt 2139095040 * amt x < amt 2139095040 * amt 2139095040 := Nat.mul_lt_mul_of_pos_left h1 (by have := two_pos 149; omega)
  omega
theorem four_big {N : Nat} (h : N < two 10000) : two 2 * N < two 30000 := by
  have h2 := two_le (show 10000 + 1 + 1 ≤ 30000 by omega)
  rw [two_succ, two_succ] at h2
  rw [show two 2 = 4 from rfl]
  omega
theorem four_two (N : Nat) : two 2 * N = 4 * N := rfl
end Go.Proofs.Ytegeadkilolngaa

/- The law of a fused product and sum, and the document's FmaBy and Fma. -/
namespace Go.Proofs.Ytegeadkilolngaa
open Go.RowKit

theorem prod_rnd {way : Int} {s : Bool} {xe ye : Int} {xs ys i j : Nat} (hx : xs < 16777216) (hy : ys < 16777216) (hi : xe + 149 = (i : Int)) (hj : ye + 149 = (j : Int)) :
    roundP way s (xe + ye) (xs * ys) false = rnd way s (xs * ys * two (i + j)) (two 149) := by
  by_cases h0 : xs * ys = 0
  · rw [h0, Nat.zero_mul, rnd_zero way s (two_pos _)]
    unfold roundP
    rw [if_pos ⟨rfl, rfl⟩]
  · have hlt : xs * ys < 18446744073709551616 := by
      have h1 := Nat.mul_le_mul (show xs ≤ 16777215 by omega) (show ys ≤ 16777215 by omega)
      omega
    refine round_rnd (by omega) hlt (two_pos _) ?_
    unfold RV
    simp only [Bool.false_eq_true, if_false]
    rw [Nat.mul_assoc (xs * ys), ← two_add, ← two_add]
    congr 2
    omega
/-- a float's own amount, rounded, is the float -/
theorem rnd_self {way : Int} {c : Nat} (h : c < 4294967296) (hz : absP c < 2139095040) : rnd way (oN c) (two 149 * amt (absP c)) (two 149) = c := by
  have hc : IsCut (two 149 * amt (absP c)) (two 149) (absP c) := by
    refine ⟨by omega, by rw [Nat.mul_comm]; exact Nat.le_refl _, fun _ => ?_⟩
    rw [Nat.mul_comm (two 149)]
    exact Nat.mul_lt_mul_of_pos_right (amt_lt _) (two_pos _)
  unfold rnd
  rw [hc.eq]
  unfold rndM
  rw [if_neg (by omega), if_pos (.inl (Nat.mul_comm _ _))]
  unfold oN absP
  by_cases hs : 2147483648 ≤ c
  · rw [decide_eq_true hs]; show 2147483648 + c % 2147483648 = c; omega
  · rw [decide_eq_false hs]; show 0 + c % 2147483648 = c; omega
theorem fma_law (way : Int) {a b c : Nat} (h3 : c < 4294967296) (ha : absP a < 2139095040) (hb : absP b < 2139095040) (hc : absP c < 2139095040) :
    finP way (sgnX a b) c (oE a + oE b) (oS a * oS b) (oN c) (oE c) (oS c) =
      if amt (absP a) * amt (absP b) = 0 ∧ two 149 * amt (absP c) = 0 then (if oN c = sgnX a b then c else sgn (way == 2)) else sumW way (sgnX a b) (oN c) (amt (absP a) * amt (absP b)) (two 149 * amt (absP c)) := by
  obtain ⟨xa1, xa2, xa3⟩ := o_bounds a
  obtain ⟨xb1, xb2, xb3⟩ := o_bounds b
  obtain ⟨xc1, xc2, xc3⟩ := o_bounds c
  have fa := o_fin ha
  have fb := o_fin hb
  have fc := o_fin hc
  obtain ⟨i, hi⟩ : ∃ i : Nat, oE a + 149 = (i : Int) := ⟨(oE a + 149).toNat, by omega⟩
  obtain ⟨j, hj⟩ : ∃ i : Nat, oE b + 149 = (i : Int) := ⟨(oE b + 149).toNat, by omega⟩
  obtain ⟨k, hk⟩ : ∃ i : Nat, oE c + 149 = (i : Int) := ⟨(oE c + 149).toNat, by omega⟩
  have hX : amt (absP a) * amt (absP b) = oS a * oS b * two (i + j) := by
    rw [← ofin_amt, ← ofin_amt, show (oE a + 149).toNat = i from by omega, show (oE b + 149).toNat = j from by omega, two_add]
    generalize two i = p; generalize two j = q
    rw [Nat.mul_assoc, Nat.mul_assoc, Nat.mul_left_comm p]
  have hZ : two 149 * amt (absP c) = oS c * two (k + 149) := by
    rw [← ofin_amt, show (oE c + 149).toNat = k from by omega, two_add, Nat.mul_left_comm, Nat.mul_comm (two 149)]
  have hself := rnd_self (way := way) h3 hc
  have hpr := prod_rnd (way := way) (s := sgnX a b) xa1 xb1 hi hj
  have hlt : oS a * oS b < 18446744073709551616 := by
    have h1 := Nat.mul_le_mul (show oS a ≤ 16777215 by omega) (show oS b ≤ 16777215 by omega)
    omega
  have zX : oS a * oS b = 0 ↔ amt (absP a) * amt (absP b) = 0 := by
    rw [hX]
    constructor
    · intro h; rw [h, Nat.zero_mul]
    · intro h
      have := two_pos (i + j)
      rcases Nat.mul_eq_zero.1 h with h | h <;> omega
  have zZ : oS c = 0 ↔ two 149 * amt (absP c) = 0 := by
    rw [hZ]
    constructor
    · intro h; rw [h, Nat.zero_mul]
    · intro h
      have := two_pos (k + 149)
      rcases Nat.mul_eq_zero.1 h with h | h <;> omega
  rw [← hX] at hpr
  obtain ⟨X, hXX⟩ : ∃ X, amt (absP a) * amt (absP b) = X := ⟨_, rfl⟩
  obtain ⟨Z, hZZ⟩ : ∃ X, two 149 * amt (absP c) = X := ⟨_, rfl⟩
  rw [hXX] at hX zX hpr ⊢
  rw [hZZ] at hZ zZ hself ⊢
  unfold finP
  by_cases h0 : oS a * oS b = 0
  · by_cases h1 : oS c = 0
    · rw [if_pos (show oS a * oS b = 0 ∧ oS c = 0 from ⟨h0, h1⟩), if_pos (show X = 0 ∧ Z = 0 from ⟨zX.1 h0, zZ.1 h1⟩)]
    · have hz : ¬ Z = 0 := fun e => h1 (zZ.2 e)
      rw [if_neg (show ¬ (oS a * oS b = 0 ∧ oS c = 0) from fun h => h1 h.2), if_pos h0, if_neg (show ¬ (X = 0 ∧ Z = 0) from fun h => hz h.2), zX.1 h0]
      unfold sumW
      by_cases hn : sgnX a b = oN c
      · rw [if_pos hn, hn, Nat.zero_add, hself]
      · rw [if_neg hn, if_neg (show ¬ 0 = Z from fun e => hz e.symm), if_neg (show ¬ Z < 0 by omega), Nat.sub_zero, hself]
  · have hx : ¬ X = 0 := fun e => h0 (zX.2 e)
    rw [if_neg (show ¬ (oS a * oS b = 0 ∧ oS c = 0) from fun h => h0 h.1), if_neg h0, if_neg (show ¬ (X = 0 ∧ Z = 0) from fun h => hx h.1)]
    by_cases h1 : oS c = 0
    · rw [if_pos h1, hpr, zZ.1 h1]
      unfold sumW
      by_cases hn : sgnX a b = oN c
      · rw [if_pos hn, Nat.add_zero]
      · rw [if_neg hn, if_neg hx, if_pos (show 0 < X by omega), Nat.sub_zero]
    · rw [if_neg h1, sumF_law (i := i + j) (j := k + 149) (by omega) (by omega) hlt (by omega) (by omega) (by omega), ← hX, ← hZ]
theorem big_prod {x y : Nat} (hx : x ≤ 2139095040) (hy : y ≤ 2139095040) : amt x * amt y ≤ two 554 := by
  have h1 : amt x * amt y ≤ two 277 * two 277 := Nat.mul_le_mul (amt_le hx) (amt_le hy)
  rw [← two_add] at h1
  exact h1
theorem big_149a {z : Nat} (hz : z ≤ 2139095040) : two 149 * amt z ≤ two 426 := by
  have h1 : two 149 * amt z ≤ two 149 * two 277 := Nat.mul_le_mul_left _ (amt_le hz)
  rw [← two_add] at h1
  exact h1
theorem big_fsum {x y z : Nat} (hx : x ≤ 2139095040) (hy : y ≤ 2139095040) (hz : z ≤ 2139095040) : amt x * amt y + two 149 * amt z < two 10000 := by
  have h1 := big_prod hx hy
  have h2 := big_149a hz
  have h3 := two_le (show 426 ≤ 554 by omega)
  have h4 := two_le (show 554 + 1 + 1 ≤ 10000 by omega)
  have h5 := two_pos 554
  rw [two_succ, two_succ] at h4
  omega
theorem rmul_at {a b r : Nat} {w : World} (h : Hid (a < 4294967296)) (h' : Hid (b < 4294967296)) (hr : Hid (mulP 0 a b = r)) : Calls Try.prog 89 #[.int .i64 0, .int .u32 (a : Int), .int .u32 (b : Int)] w (BR w r) := by
  have := rmul_any 0 a b w h h'
  rw [hr.out] at this
  exact this
set_option maxRecDepth 100000 in
set_option maxHeartbeats 1600000 in
theorem rfma_any (way : Int) (a b c : Nat) (w : World) (h1 : Hid (a < 4294967296)) (h2 : Hid (b < 4294967296)) (h3 : Hid (c < 4294967296)) :
    Calls Try.prog 90 #[.int .i64 way, .int .u32 (a : Int), .int .u32 (b : Int), .int .u32 (c : Int)] w (BR w (fmaP way a b c)) := by
  obtain ⟨x, hx⟩ : ∃ x, absP a = x := ⟨_, rfl⟩
  obtain ⟨y, hy⟩ : ∃ y, absP b = y := ⟨_, rfl⟩
  obtain ⟨z, hz⟩ : ∃ y, absP c = y := ⟨_, rfl⟩
  obtain ⟨sa, hsa⟩ : ∃ s, decide (2147483648 ≤ a) = s := ⟨_, rfl⟩
  obtain ⟨sb, hsb⟩ : ∃ s, decide (2147483648 ≤ b) = s := ⟨_, rfl⟩
  obtain ⟨sc, hsc⟩ : ∃ s, decide (2147483648 ≤ c) = s := ⟨_, rfl⟩
  obtain ⟨sn, hsn⟩ : ∃ s, (sa != sb) = s := ⟨_, rfl⟩
  have hsn2 : (!(sa == sb)) = sn := hsn
  have hsg : sgnX a b = sn := by unfold sgnX; rw [hsa, hsb, hsn]
  have hoc : oN c = sc := hsc
  obtain ⟨m, hm⟩ : ∃ x, mulP 0 a b = x := ⟨_, rfl⟩
  have HML : Hid (m < 4294967296) := Lib.hid (by rw [← hm]; exact (okR.mul 0 a b).1)
  have HM := Lib.hid hm
  have HX := Lib.hid hx
  have HY := Lib.hid hy
  have HZ := Lib.hid hz
  have SA := Lib.hid hsa
  have SB := Lib.hid hsb
  have SC := Lib.hid hsc
  have hxi_cases : x = 2139095040 ∨ x ≠ 2139095040 := by omega
  cases hna : nanP a
  case true =>
    have NA := Lib.hid hna
    have HE : Hid (fmaP way a b c = 2143289344) := Lib.hid (by unfold fmaP; rw [if_pos (.inl hna)])
    have bx : ((x : Int) == 2139095040) = false := int_ne (fun e => by
      have := inf_nan (inf_abs.2 (hx.trans e))
      rw [hna] at this; cases this)
    obtain ⟨bi, hbi⟩ : ∃ q, ((y : Int) == 2139095040) = q := ⟨_, rfl⟩
    clear hna hm hx hy hz hsa hsb hsc hsg hoc hxi_cases
    go_enter Try.func90, Try.ntmps90
    have hB0 := Below.refl w.heap.size w
    have hz0 := hB0.size
    go_wp2_with fail
    refine (rmul_at h1 h2 HM).mono ?_
    rintro e' W1 ⟨rfl, hC⟩
    have hB1 := hB0.trans (hC.mono hz0)
    have hz1 := hB1.size
    clear hC hB0 hz0
    go_wp2_with fail
    refine (rbelow_at SA).mono ?_
    rintro e' w' ⟨rfl, rfl⟩
    go_wp2_with fail
    refine (rbelow_at SB).mono ?_
    rintro e' w' ⟨rfl, rfl⟩
    go_wp2_with fail
    refine (rabs_at h1 HX).mono ?_
    rintro e' w' ⟨rfl, rfl⟩
    go_wp2_with fail
    refine (rabs_at h2 HY).mono ?_
    rintro e' w' ⟨rfl, rfl⟩
    go_wp2_with fail
    refine (rnone_at h1 NA).mono ?_
    rintro e' w' ⟨rfl, rfl⟩
    go_wp2
    go_ret
    exact ⟨by rw [HE.out]; try rfl, hB1⟩
  have NA := Lib.hid hna
  cases hnb : nanP b
  case true =>
    have NB := Lib.hid hnb
    have HE : Hid (fmaP way a b c = 2143289344) := Lib.hid (by unfold fmaP; rw [if_pos (.inr (.inl hnb))])
    obtain ⟨bi, hbi⟩ : ∃ q, ((y : Int) == 2139095040) = q := ⟨_, rfl⟩
    rcases hxi_cases with hxi | hxi
    · have bx : ((x : Int) == 2139095040) = true := int_eq hxi
      clear hna hnb hm hx hy hz hsa hsb hsc hsg hoc hxi
      go_enter Try.func90, Try.ntmps90
      have hB0 := Below.refl w.heap.size w
      have hz0 := hB0.size
      go_wp2_with fail
      refine (rmul_at h1 h2 HM).mono ?_
      rintro e' W1 ⟨rfl, hC⟩
      have hB1 := hB0.trans (hC.mono hz0)
      have hz1 := hB1.size
      clear hC hB0 hz0
      go_wp2_with fail
      refine (rbelow_at SA).mono ?_
      rintro e' w' ⟨rfl, rfl⟩
      go_wp2_with fail
      refine (rbelow_at SB).mono ?_
      rintro e' w' ⟨rfl, rfl⟩
      go_wp2_with fail
      refine (rabs_at h1 HX).mono ?_
      rintro e' w' ⟨rfl, rfl⟩
      go_wp2_with fail
      refine (rnone_at h1 NA).mono ?_
      rintro e' w' ⟨rfl, rfl⟩
      go_wp2_with fail
      refine (rnone_at h2 NB).mono ?_
      rintro e' w' ⟨rfl, rfl⟩
      go_wp2
      go_ret
      exact ⟨by rw [HE.out]; try rfl, hB1⟩
    · have bx : ((x : Int) == 2139095040) = false := int_ne hxi
      clear hna hnb hm hx hy hz hsa hsb hsc hsg hoc hxi
      go_enter Try.func90, Try.ntmps90
      have hB0 := Below.refl w.heap.size w
      have hz0 := hB0.size
      go_wp2_with fail
      refine (rmul_at h1 h2 HM).mono ?_
      rintro e' W1 ⟨rfl, hC⟩
      have hB1 := hB0.trans (hC.mono hz0)
      have hz1 := hB1.size
      clear hC hB0 hz0
      go_wp2_with fail
      refine (rbelow_at SA).mono ?_
      rintro e' w' ⟨rfl, rfl⟩
      go_wp2_with fail
      refine (rbelow_at SB).mono ?_
      rintro e' w' ⟨rfl, rfl⟩
      go_wp2_with fail
      refine (rabs_at h1 HX).mono ?_
      rintro e' w' ⟨rfl, rfl⟩
      go_wp2_with fail
      refine (rabs_at h2 HY).mono ?_
      rintro e' w' ⟨rfl, rfl⟩
      go_wp2_with fail
      refine (rnone_at h1 NA).mono ?_
      rintro e' w' ⟨rfl, rfl⟩
      go_wp2_with fail
      refine (rnone_at h2 NB).mono ?_
      rintro e' w' ⟨rfl, rfl⟩
      go_wp2
      go_ret
      exact ⟨by rw [HE.out]; try rfl, hB1⟩
  have NB := Lib.hid hnb
  cases hnc : nanP c
  case true =>
    have NC := Lib.hid hnc
    have HE : Hid (fmaP way a b c = 2143289344) := Lib.hid (by unfold fmaP; rw [if_pos (.inr (.inr (.inl hnc)))])
    obtain ⟨bi, hbi⟩ : ∃ q, ((y : Int) == 2139095040) = q := ⟨_, rfl⟩
    rcases hxi_cases with hxi | hxi
    · have bx : ((x : Int) == 2139095040) = true := int_eq hxi
      clear hna hnb hnc hm hx hy hz hsa hsb hsc hsg hoc hxi
      go_enter Try.func90, Try.ntmps90
      have hB0 := Below.refl w.heap.size w
      have hz0 := hB0.size
      go_wp2_with fail
      refine (rmul_at h1 h2 HM).mono ?_
      rintro e' W1 ⟨rfl, hC⟩
      have hB1 := hB0.trans (hC.mono hz0)
      have hz1 := hB1.size
      clear hC hB0 hz0
      go_wp2_with fail
      refine (rbelow_at SA).mono ?_
      rintro e' w' ⟨rfl, rfl⟩
      go_wp2_with fail
      refine (rbelow_at SB).mono ?_
      rintro e' w' ⟨rfl, rfl⟩
      go_wp2_with fail
      refine (rabs_at h1 HX).mono ?_
      rintro e' w' ⟨rfl, rfl⟩
      go_wp2_with fail
      refine (rnone_at h1 NA).mono ?_
      rintro e' w' ⟨rfl, rfl⟩
      go_wp2_with fail
      refine (rnone_at h2 NB).mono ?_
      rintro e' w' ⟨rfl, rfl⟩
      go_wp2_with fail
      refine (rnone_at h3 NC).mono ?_
      rintro e' w' ⟨rfl, rfl⟩
      go_wp2
      go_ret
      exact ⟨by rw [HE.out]; try rfl, hB1⟩
    · have bx : ((x : Int) == 2139095040) = false := int_ne hxi
      clear hna hnb hnc hm hx hy hz hsa hsb hsc hsg hoc hxi
      go_enter Try.func90, Try.ntmps90
      have hB0 := Below.refl w.heap.size w
      have hz0 := hB0.size
      go_wp2_with fail
      refine (rmul_at h1 h2 HM).mono ?_
      rintro e' W1 ⟨rfl, hC⟩
      have hB1 := hB0.trans (hC.mono hz0)
      have hz1 := hB1.size
      clear hC hB0 hz0
      go_wp2_with fail
      refine (rbelow_at SA).mono ?_
      rintro e' w' ⟨rfl, rfl⟩
      go_wp2_with fail
      refine (rbelow_at SB).mono ?_
      rintro e' w' ⟨rfl, rfl⟩
      go_wp2_with fail
      refine (rabs_at h1 HX).mono ?_
      rintro e' w' ⟨rfl, rfl⟩
      go_wp2_with fail
      refine (rabs_at h2 HY).mono ?_
      rintro e' w' ⟨rfl, rfl⟩
      go_wp2_with fail
      refine (rnone_at h1 NA).mono ?_
      rintro e' w' ⟨rfl, rfl⟩
      go_wp2_with fail
      refine (rnone_at h2 NB).mono ?_
      rintro e' w' ⟨rfl, rfl⟩
      go_wp2_with fail
      refine (rnone_at h3 NC).mono ?_
      rintro e' w' ⟨rfl, rfl⟩
      go_wp2
      go_ret
      exact ⟨by rw [HE.out]; try rfl, hB1⟩
  have NC := Lib.hid hnc
  cases hnm : nanP m
  case true =>
    have NM := Lib.hid hnm
    have HE : Hid (fmaP way a b c = 2143289344) := Lib.hid (by unfold fmaP; rw [if_pos (.inr (.inr (.inr (by rw [hm]; exact hnm))))])
    obtain ⟨bi, hbi⟩ : ∃ q, ((y : Int) == 2139095040) = q := ⟨_, rfl⟩
    rcases hxi_cases with hxi | hxi
    · have bx : ((x : Int) == 2139095040) = true := int_eq hxi
      clear hna hnb hnc hnm hm hx hy hz hsa hsb hsc hsg hoc hxi
      go_enter Try.func90, Try.ntmps90
      have hB0 := Below.refl w.heap.size w
      have hz0 := hB0.size
      go_wp2_with fail
      refine (rmul_at h1 h2 HM).mono ?_
      rintro e' W1 ⟨rfl, hC⟩
      have hB1 := hB0.trans (hC.mono hz0)
      have hz1 := hB1.size
      clear hC hB0 hz0
      go_wp2_with fail
      refine (rbelow_at SA).mono ?_
      rintro e' w' ⟨rfl, rfl⟩
      go_wp2_with fail
      refine (rbelow_at SB).mono ?_
      rintro e' w' ⟨rfl, rfl⟩
      go_wp2_with fail
      refine (rabs_at h1 HX).mono ?_
      rintro e' w' ⟨rfl, rfl⟩
      go_wp2_with fail
      refine (rnone_at h1 NA).mono ?_
      rintro e' w' ⟨rfl, rfl⟩
      go_wp2_with fail
      refine (rnone_at h2 NB).mono ?_
      rintro e' w' ⟨rfl, rfl⟩
      go_wp2_with fail
      refine (rnone_at h3 NC).mono ?_
      rintro e' w' ⟨rfl, rfl⟩
      go_wp2_with fail
      refine (rnone_at HML NM).mono ?_
      rintro e' w' ⟨rfl, rfl⟩
      go_wp2
      go_ret
      exact ⟨by rw [HE.out]; try rfl, hB1⟩
    · have bx : ((x : Int) == 2139095040) = false := int_ne hxi
      clear hna hnb hnc hnm hm hx hy hz hsa hsb hsc hsg hoc hxi
      go_enter Try.func90, Try.ntmps90
      have hB0 := Below.refl w.heap.size w
      have hz0 := hB0.size
      go_wp2_with fail
      refine (rmul_at h1 h2 HM).mono ?_
      rintro e' W1 ⟨rfl, hC⟩
      have hB1 := hB0.trans (hC.mono hz0)
      have hz1 := hB1.size
      clear hC hB0 hz0
      go_wp2_with fail
      refine (rbelow_at SA).mono ?_
      rintro e' w' ⟨rfl, rfl⟩
      go_wp2_with fail
      refine (rbelow_at SB).mono ?_
      rintro e' w' ⟨rfl, rfl⟩
      go_wp2_with fail
      refine (rabs_at h1 HX).mono ?_
      rintro e' w' ⟨rfl, rfl⟩
      go_wp2_with fail
      refine (rabs_at h2 HY).mono ?_
      rintro e' w' ⟨rfl, rfl⟩
      go_wp2_with fail
      refine (rnone_at h1 NA).mono ?_
      rintro e' w' ⟨rfl, rfl⟩
      go_wp2_with fail
      refine (rnone_at h2 NB).mono ?_
      rintro e' w' ⟨rfl, rfl⟩
      go_wp2_with fail
      refine (rnone_at h3 NC).mono ?_
      rintro e' w' ⟨rfl, rfl⟩
      go_wp2_with fail
      refine (rnone_at HML NM).mono ?_
      rintro e' w' ⟨rfl, rfl⟩
      go_wp2
      go_ret
      exact ⟨by rw [HE.out]; try rfl, hB1⟩
  have NM := Lib.hid hnm
  have hno : ¬ (nanP a = true ∨ nanP b = true ∨ nanP c = true ∨ nanP (mulP 0 a b) = true) := by rw [hna, hnb, hnc, hm, hnm]; simp
  by_cases hmany : x = 2139095040 ∨ y = 2139095040
  case pos =>
    have hinf : infP a = true ∨ infP b = true := by
      rcases hmany with h | h
      · exact .inl (inf_abs.2 (hx.trans h))
      · exact .inr (inf_abs.2 (hy.trans h))
    have hmi : m = sgn sn + 2139095040 := by
      rw [← hm, ← hsg]
      refine mul_inf 0 hna hnb ?_
      have hnn : ¬ mulP 0 a b = 2143289344 := by
        intro e
        rw [hm] at e
        rw [e] at hnm
        exact absurd hnm (by decide)
      rcases hinf with h | h
      · by_cases h0 : absP b = 0
        · exact absurd (mul_none 0 (.inl ⟨h, hnb, h0⟩)) hnn
        · exact .inl ⟨h, h0⟩
      · by_cases h0 : absP a = 0
        · exact absurd (mul_none 0 (.inr ⟨h, hna, h0⟩)) hnn
        · exact .inr ⟨h, h0⟩
    have hE : fmaP way a b c = if z = 2139095040 ∧ sc ≠ sn then 2143289344 else m := by
      unfold fmaP
      rw [if_neg hno, if_pos hinf, hsg, ← hmi]
      by_cases hzi : z = 2139095040
      · have hci : infP c = true := inf_abs.2 (hz.trans hzi)
        have hcv : c = sgn sc + 2139095040 := by
          unfold absP at hz
          have := h3.out
          rw [← hsc]
          by_cases hs : 2147483648 ≤ c
          · rw [decide_eq_true hs]; show c = 2147483648 + 2139095040; omega
          · rw [decide_eq_false hs]; show c = 0 + 2139095040; omega
        by_cases hss : sc = sn
        · rw [if_neg (by rw [hmi, hcv, hss]; simp), if_neg (by simp [hss])]
        · have hcm : c ≠ m := by
            rw [hmi, hcv]
            revert hss
            cases sc <;> cases sn <;> simp [sgn]
          rw [if_pos ⟨hci, hcm⟩, if_pos ⟨hzi, hss⟩]
      · have hci : infP c = false := by
          cases h : infP c
          · rfl
          · exact absurd (hz.symm.trans (inf_abs.1 h)) hzi
        rw [if_neg (by rw [hci]; simp), if_neg (fun h => hzi h.1)]
    have HE0 := Lib.hid hE
    clear hE hmi hinf hno hnm hna hnb hnc hm hx hy hz hsa hsb hsc hsg hoc
    by_cases hzi : z = 2139095040
    · have bz : ((z : Int) == 2139095040) = true := int_eq hzi
      by_cases hss : sc = sn
      · have bs : (sc != sn) = false := by rw [hss]; simp
        have bs2 : (!(sc == sn)) = false := bs
        have HE : Hid (fmaP way a b c = m) := Lib.hid (by rw [HE0.out, if_neg (fun h => h.2 hss)])
        clear HE0 hss hzi
        rcases hxi_cases with hxi | hxi
        · have bx : ((x : Int) == 2139095040) = true := int_eq hxi
          clear hxi hmany
          go_enter Try.func90, Try.ntmps90
          have hB0 := Below.refl w.heap.size w
          have hz0 := hB0.size
          go_wp2_with fail
          refine (rmul_at h1 h2 HM).mono ?_
          rintro e' W1 ⟨rfl, hC⟩
          have hB1 := hB0.trans (hC.mono hz0)
          have hz1 := hB1.size
          clear hC hB0 hz0
          go_wp2_with fail
          refine (rbelow_at SA).mono ?_
          rintro e' w' ⟨rfl, rfl⟩
          go_wp2_with fail
          refine (rbelow_at SB).mono ?_
          rintro e' w' ⟨rfl, rfl⟩
          go_wp2_with fail
          refine (rabs_at h1 HX).mono ?_
          rintro e' w' ⟨rfl, rfl⟩
          go_wp2_with fail
          refine (rnone_at h1 NA).mono ?_
          rintro e' w' ⟨rfl, rfl⟩
          go_wp2_with fail
          refine (rnone_at h2 NB).mono ?_
          rintro e' w' ⟨rfl, rfl⟩
          go_wp2_with fail
          refine (rnone_at h3 NC).mono ?_
          rintro e' w' ⟨rfl, rfl⟩
          go_wp2_with fail
          refine (rnone_at HML NM).mono ?_
          rintro e' w' ⟨rfl, rfl⟩
          go_wp2_with fail
          refine (rabs_at h3 HZ).mono ?_
          rintro e' w' ⟨rfl, rfl⟩
          go_wp2_with fail
          refine (rbelow_at SC).mono ?_
          rintro e' w' ⟨rfl, rfl⟩
          go_wp2
          go_ret
          exact ⟨by rw [HE.out]; try rfl, hB1⟩
        · have bx : ((x : Int) == 2139095040) = false := int_ne hxi
          have by' : ((y : Int) == 2139095040) = true := int_eq (hmany.resolve_left hxi)
          clear hxi hmany
          go_enter Try.func90, Try.ntmps90
          have hB0 := Below.refl w.heap.size w
          have hz0 := hB0.size
          go_wp2_with fail
          refine (rmul_at h1 h2 HM).mono ?_
          rintro e' W1 ⟨rfl, hC⟩
          have hB1 := hB0.trans (hC.mono hz0)
          have hz1 := hB1.size
          clear hC hB0 hz0
          go_wp2_with fail
          refine (rbelow_at SA).mono ?_
          rintro e' w' ⟨rfl, rfl⟩
          go_wp2_with fail
          refine (rbelow_at SB).mono ?_
          rintro e' w' ⟨rfl, rfl⟩
          go_wp2_with fail
          refine (rabs_at h1 HX).mono ?_
          rintro e' w' ⟨rfl, rfl⟩
          go_wp2_with fail
          refine (rabs_at h2 HY).mono ?_
          rintro e' w' ⟨rfl, rfl⟩
          go_wp2_with fail
          refine (rnone_at h1 NA).mono ?_
          rintro e' w' ⟨rfl, rfl⟩
          go_wp2_with fail
          refine (rnone_at h2 NB).mono ?_
          rintro e' w' ⟨rfl, rfl⟩
          go_wp2_with fail
          refine (rnone_at h3 NC).mono ?_
          rintro e' w' ⟨rfl, rfl⟩
          go_wp2_with fail
          refine (rnone_at HML NM).mono ?_
          rintro e' w' ⟨rfl, rfl⟩
          go_wp2_with fail
          refine (rabs_at h3 HZ).mono ?_
          rintro e' w' ⟨rfl, rfl⟩
          go_wp2_with fail
          refine (rbelow_at SC).mono ?_
          rintro e' w' ⟨rfl, rfl⟩
          go_wp2
          go_ret
          exact ⟨by rw [HE.out]; try rfl, hB1⟩
      · have bs : (sc != sn) = true := by rw [bne_iff_ne]; exact hss
        have bs2 : (!(sc == sn)) = true := bs
        have HE : Hid (fmaP way a b c = 2143289344) := Lib.hid (by rw [HE0.out, if_pos ⟨hzi, hss⟩])
        clear HE0 hss hzi
        rcases hxi_cases with hxi | hxi
        · have bx : ((x : Int) == 2139095040) = true := int_eq hxi
          clear hxi hmany
          go_enter Try.func90, Try.ntmps90
          have hB0 := Below.refl w.heap.size w
          have hz0 := hB0.size
          go_wp2_with fail
          refine (rmul_at h1 h2 HM).mono ?_
          rintro e' W1 ⟨rfl, hC⟩
          have hB1 := hB0.trans (hC.mono hz0)
          have hz1 := hB1.size
          clear hC hB0 hz0
          go_wp2_with fail
          refine (rbelow_at SA).mono ?_
          rintro e' w' ⟨rfl, rfl⟩
          go_wp2_with fail
          refine (rbelow_at SB).mono ?_
          rintro e' w' ⟨rfl, rfl⟩
          go_wp2_with fail
          refine (rabs_at h1 HX).mono ?_
          rintro e' w' ⟨rfl, rfl⟩
          go_wp2_with fail
          refine (rnone_at h1 NA).mono ?_
          rintro e' w' ⟨rfl, rfl⟩
          go_wp2_with fail
          refine (rnone_at h2 NB).mono ?_
          rintro e' w' ⟨rfl, rfl⟩
          go_wp2_with fail
          refine (rnone_at h3 NC).mono ?_
          rintro e' w' ⟨rfl, rfl⟩
          go_wp2_with fail
          refine (rnone_at HML NM).mono ?_
          rintro e' w' ⟨rfl, rfl⟩
          go_wp2_with fail
          refine (rabs_at h3 HZ).mono ?_
          rintro e' w' ⟨rfl, rfl⟩
          go_wp2_with fail
          refine (rbelow_at SC).mono ?_
          rintro e' w' ⟨rfl, rfl⟩
          go_wp2
          go_ret
          exact ⟨by rw [HE.out]; try rfl, hB1⟩
        · have bx : ((x : Int) == 2139095040) = false := int_ne hxi
          have by' : ((y : Int) == 2139095040) = true := int_eq (hmany.resolve_left hxi)
          clear hxi hmany
          go_enter Try.func90, Try.ntmps90
          have hB0 := Below.refl w.heap.size w
          have hz0 := hB0.size
          go_wp2_with fail
          refine (rmul_at h1 h2 HM).mono ?_
          rintro e' W1 ⟨rfl, hC⟩
          have hB1 := hB0.trans (hC.mono hz0)
          have hz1 := hB1.size
          clear hC hB0 hz0
          go_wp2_with fail
          refine (rbelow_at SA).mono ?_
          rintro e' w' ⟨rfl, rfl⟩
          go_wp2_with fail
          refine (rbelow_at SB).mono ?_
          rintro e' w' ⟨rfl, rfl⟩
          go_wp2_with fail
          refine (rabs_at h1 HX).mono ?_
          rintro e' w' ⟨rfl, rfl⟩
          go_wp2_with fail
          refine (rabs_at h2 HY).mono ?_
          rintro e' w' ⟨rfl, rfl⟩
          go_wp2_with fail
          refine (rnone_at h1 NA).mono ?_
          rintro e' w' ⟨rfl, rfl⟩
          go_wp2_with fail
          refine (rnone_at h2 NB).mono ?_
          rintro e' w' ⟨rfl, rfl⟩
          go_wp2_with fail
          refine (rnone_at h3 NC).mono ?_
          rintro e' w' ⟨rfl, rfl⟩
          go_wp2_with fail
          refine (rnone_at HML NM).mono ?_
          rintro e' w' ⟨rfl, rfl⟩
          go_wp2_with fail
          refine (rabs_at h3 HZ).mono ?_
          rintro e' w' ⟨rfl, rfl⟩
          go_wp2_with fail
          refine (rbelow_at SC).mono ?_
          rintro e' w' ⟨rfl, rfl⟩
          go_wp2
          go_ret
          exact ⟨by rw [HE.out]; try rfl, hB1⟩
    · have bz : ((z : Int) == 2139095040) = false := int_ne hzi
      have HE : Hid (fmaP way a b c = m) := Lib.hid (by rw [HE0.out, if_neg (fun h => hzi h.1)])
      clear HE0 hzi
      rcases hxi_cases with hxi | hxi
      · have bx : ((x : Int) == 2139095040) = true := int_eq hxi
        clear hxi hmany
        go_enter Try.func90, Try.ntmps90
        have hB0 := Below.refl w.heap.size w
        have hz0 := hB0.size
        go_wp2_with fail
        refine (rmul_at h1 h2 HM).mono ?_
        rintro e' W1 ⟨rfl, hC⟩
        have hB1 := hB0.trans (hC.mono hz0)
        have hz1 := hB1.size
        clear hC hB0 hz0
        go_wp2_with fail
        refine (rbelow_at SA).mono ?_
        rintro e' w' ⟨rfl, rfl⟩
        go_wp2_with fail
        refine (rbelow_at SB).mono ?_
        rintro e' w' ⟨rfl, rfl⟩
        go_wp2_with fail
        refine (rabs_at h1 HX).mono ?_
        rintro e' w' ⟨rfl, rfl⟩
        go_wp2_with fail
        refine (rnone_at h1 NA).mono ?_
        rintro e' w' ⟨rfl, rfl⟩
        go_wp2_with fail
        refine (rnone_at h2 NB).mono ?_
        rintro e' w' ⟨rfl, rfl⟩
        go_wp2_with fail
        refine (rnone_at h3 NC).mono ?_
        rintro e' w' ⟨rfl, rfl⟩
        go_wp2_with fail
        refine (rnone_at HML NM).mono ?_
        rintro e' w' ⟨rfl, rfl⟩
        go_wp2_with fail
        refine (rabs_at h3 HZ).mono ?_
        rintro e' w' ⟨rfl, rfl⟩
        go_wp2
        go_ret
        exact ⟨by rw [HE.out]; try rfl, hB1⟩
      · have bx : ((x : Int) == 2139095040) = false := int_ne hxi
        have by' : ((y : Int) == 2139095040) = true := int_eq (hmany.resolve_left hxi)
        clear hxi hmany
        go_enter Try.func90, Try.ntmps90
        have hB0 := Below.refl w.heap.size w
        have hz0 := hB0.size
        go_wp2_with fail
        refine (rmul_at h1 h2 HM).mono ?_
        rintro e' W1 ⟨rfl, hC⟩
        have hB1 := hB0.trans (hC.mono hz0)
        have hz1 := hB1.size
        clear hC hB0 hz0
        go_wp2_with fail
        refine (rbelow_at SA).mono ?_
        rintro e' w' ⟨rfl, rfl⟩
        go_wp2_with fail
        refine (rbelow_at SB).mono ?_
        rintro e' w' ⟨rfl, rfl⟩
        go_wp2_with fail
        refine (rabs_at h1 HX).mono ?_
        rintro e' w' ⟨rfl, rfl⟩
        go_wp2_with fail
        refine (rabs_at h2 HY).mono ?_
        rintro e' w' ⟨rfl, rfl⟩
        go_wp2_with fail
        refine (rnone_at h1 NA).mono ?_
        rintro e' w' ⟨rfl, rfl⟩
        go_wp2_with fail
        refine (rnone_at h2 NB).mono ?_
        rintro e' w' ⟨rfl, rfl⟩
        go_wp2_with fail
        refine (rnone_at h3 NC).mono ?_
        rintro e' w' ⟨rfl, rfl⟩
        go_wp2_with fail
        refine (rnone_at HML NM).mono ?_
        rintro e' w' ⟨rfl, rfl⟩
        go_wp2_with fail
        refine (rabs_at h3 HZ).mono ?_
        rintro e' w' ⟨rfl, rfl⟩
        go_wp2
        go_ret
        exact ⟨by rw [HE.out]; try rfl, hB1⟩
  have hxi : ¬ x = 2139095040 := fun h => hmany (.inl h)
  have hyi : ¬ y = 2139095040 := fun h => hmany (.inr h)
  have IA : infP a = false := by
    cases h : infP a
    · rfl
    · exact absurd (hx.symm.trans (inf_abs.1 h)) hxi
  have IB : infP b = false := by
    cases h : infP b
    · rfl
    · exact absurd (hy.symm.trans (inf_abs.1 h)) hyi
  have bx : ((x : Int) == 2139095040) = false := int_ne hxi
  have by' : ((y : Int) == 2139095040) = false := int_ne hyi
  have hno2 : ¬ (infP a = true ∨ infP b = true) := by rw [IA, IB]; simp
  by_cases hzi : z = 2139095040
  case pos =>
    have hci : infP c = true := inf_abs.2 (hz.trans hzi)
    have HE : Hid (fmaP way a b c = c) := Lib.hid (by unfold fmaP; rw [if_neg hno, if_neg hno2, if_pos hci])
    have bz : ((z : Int) == 2139095040) = true := int_eq hzi
    clear hno hno2 hnm hna hnb hnc hm hx hy hz hsa hsb hsc hsg hoc hxi hyi IA IB hci hzi hmany hxi_cases
    go_enter Try.func90, Try.ntmps90
    have hB0 := Below.refl w.heap.size w
    have hz0 := hB0.size
    go_wp2_with fail
    refine (rmul_at h1 h2 HM).mono ?_
    rintro e' W1 ⟨rfl, hC⟩
    have hB1 := hB0.trans (hC.mono hz0)
    have hz1 := hB1.size
    clear hC hB0 hz0
    go_wp2_with fail
    refine (rbelow_at SA).mono ?_
    rintro e' w' ⟨rfl, rfl⟩
    go_wp2_with fail
    refine (rbelow_at SB).mono ?_
    rintro e' w' ⟨rfl, rfl⟩
    go_wp2_with fail
    refine (rabs_at h1 HX).mono ?_
    rintro e' w' ⟨rfl, rfl⟩
    go_wp2_with fail
    refine (rabs_at h2 HY).mono ?_
    rintro e' w' ⟨rfl, rfl⟩
    go_wp2_with fail
    refine (rnone_at h1 NA).mono ?_
    rintro e' w' ⟨rfl, rfl⟩
    go_wp2_with fail
    refine (rnone_at h2 NB).mono ?_
    rintro e' w' ⟨rfl, rfl⟩
    go_wp2_with fail
    refine (rnone_at h3 NC).mono ?_
    rintro e' w' ⟨rfl, rfl⟩
    go_wp2_with fail
    refine (rnone_at HML NM).mono ?_
    rintro e' w' ⟨rfl, rfl⟩
    go_wp2_with fail
    refine (rabs_at h3 HZ).mono ?_
    rintro e' w' ⟨rfl, rfl⟩
    go_wp2
    go_ret
    exact ⟨by rw [HE.out]; try rfl, hB1⟩
  have bz : ((z : Int) == 2139095040) = false := int_ne hzi
  have IC : infP c = false := by
    cases h : infP c
    · rfl
    · exact absurd (hz.symm.trans (inf_abs.1 h)) hzi
  have lx := fin_abs hna IA
  have ly := fin_abs hnb IB
  have lz := fin_abs hnc IC
  have hl : fmaP way a b c = if amt x * amt y = 0 ∧ two 149 * amt z = 0 then (if sc = sn then c else sgn (way == 2)) else sumW way sn sc (amt x * amt y) (two 149 * amt z) := by
    unfold fmaP
    rw [if_neg hno, if_neg hno2, if_neg (by rw [IC]; simp), fma_law way h3.out lx ly lz, hx, hy, hz, hsg, hoc]
  rw [hx] at lx
  rw [hy] at ly
  rw [hz] at lz
  clear hno hno2 hnm hna hnb hnc hm hx hy hz hsa hsb hsc hsg hoc hxi hyi hzi IA IB IC hmany hxi_cases
  obtain ⟨X, hX⟩ : ∃ v, amt x * amt y = v := ⟨_, rfl⟩
  obtain ⟨Z, hZ⟩ : ∃ v, two 149 * amt z = v := ⟨_, rfl⟩
  have HXB : Hid (X < two 10000) := Lib.hid (by rw [← hX]; exact amt_amt (by omega) (by omega))
  have HZB : Hid (Z < two 10000) := Lib.hid (by rw [← hZ]; exact amt_149 (by omega))
  have HSB : Hid (X + Z < two 10000) := Lib.hid (by rw [← hX, ← hZ]; exact big_fsum (by omega) (by omega) (by omega))
  rw [hX, hZ] at hl
  have HXX := Lib.hid hX
  have HZZ := Lib.hid hZ
  clear hX hZ
  by_cases hss : sn = sc
  case pos =>
    have bss : (sn == sc) = true := by rw [hss]; simp
    by_cases hx0 : X = 0
    · by_cases hz0 : Z = 0
      · have HE : Hid (fmaP way a b c = c) := Lib.hid (by rw [hl, if_pos ⟨hx0, hz0⟩, if_pos hss.symm])
        have X0 := Lib.hid hx0
        have Z0 := Lib.hid hz0
        clear hl hss hx0 hz0
        go_enter Try.func90, Try.ntmps90
        have hB0 := Below.refl w.heap.size w
        have hz0 := hB0.size
        go_wp2_with fail
        refine (rmul_at h1 h2 HM).mono ?_
        rintro e' W1 ⟨rfl, hC⟩
        have hB1 := hB0.trans (hC.mono hz0)
        have hz1 := hB1.size
        clear hC hB0 hz0
        go_wp2_with fail
        refine (rbelow_at SA).mono ?_
        rintro e' w' ⟨rfl, rfl⟩
        go_wp2_with fail
        refine (rbelow_at SB).mono ?_
        rintro e' w' ⟨rfl, rfl⟩
        go_wp2_with fail
        refine (rabs_at h1 HX).mono ?_
        rintro e' w' ⟨rfl, rfl⟩
        go_wp2_with fail
        refine (rabs_at h2 HY).mono ?_
        rintro e' w' ⟨rfl, rfl⟩
        go_wp2_with fail
        refine (rnone_at h1 NA).mono ?_
        rintro e' w' ⟨rfl, rfl⟩
        go_wp2_with fail
        refine (rnone_at h2 NB).mono ?_
        rintro e' w' ⟨rfl, rfl⟩
        go_wp2_with fail
        refine (rnone_at h3 NC).mono ?_
        rintro e' w' ⟨rfl, rfl⟩
        go_wp2_with fail
        refine (rnone_at HML NM).mono ?_
        rintro e' w' ⟨rfl, rfl⟩
        go_wp2_with fail
        refine (rabs_at h3 HZ).mono ?_
        rintro e' w' ⟨rfl, rfl⟩
        go_wp2_with fail
        refine (rabs_at h1 HX).mono ?_
        rintro e' w' ⟨rfl, rfl⟩
        go_wp2_with fail
        refine (amount_nv x _ (by omega)).mono ?_
        rintro e' W2 ⟨A2, k2, c2, rfl, v1, hC⟩
        have hB2 := hB1.trans (hC.mono hz1)
        have hz2 := hB2.size
        clear hC hB1 hz1
        go_wp2_with fail
        refine (rabs_at h2 HY).mono ?_
        rintro e' w' ⟨rfl, rfl⟩
        go_wp2_with fail
        refine (amount_nv y _ (by omega)).mono ?_
        rintro e' W3 ⟨A3, k3, c3, rfl, v2, hC⟩
        have hB3 := hB2.trans (hC.mono hz2)
        have hz3 := hB3.size
        have v1 := v1.below hC
        clear hC hB2 hz2
        go_wp2_with fail
        refine (times_nv v1 v2 (amt_big (by omega)) (amt_big (by omega)) HXX).mono ?_
        rintro e' W4 ⟨A4, k4, c4, rfl, v3, hC⟩
        have hB4 := hB3.trans (hC.mono hz3)
        have hz4 := hB4.size
        have v1 := v1.below hC
        have v2 := v2.below hC
        clear hC hB3 hz3
        go_wp2_with fail
        refine (rabs_at h3 HZ).mono ?_
        rintro e' w' ⟨rfl, rfl⟩
        go_wp2_with fail
        refine (amount_nv z _ (by omega)).mono ?_
        rintro e' W5 ⟨A5, k5, c5, rfl, v4, hC⟩
        have hB5 := hB4.trans (hC.mono hz4)
        have hz5 := hB5.size
        have v1 := v1.below hC
        have v2 := v2.below hC
        have v3 := v3.below hC
        clear hC hB4 hz4
        go_wp2_with fail
        refine (twice_nv (k := 149) v4 (amt_big (by omega)) (by omega) HZZ).mono ?_
        rintro e' W6 ⟨A6, k6, c6, rfl, v5, hC⟩
        have hB6 := hB5.trans (hC.mono hz5)
        have hz6 := hB6.size
        have v1 := v1.below hC
        have v2 := v2.below hC
        have v3 := v3.below hC
        have v4 := v4.below hC
        clear hC hB5 hz5
        go_wp2_with fail
        refine (of_nv 1 _ (Lib.hid (by decide))).mono ?_
        rintro e' W7 ⟨A7, k7, c7, rfl, v6, hC⟩
        have hB7 := hB6.trans (hC.mono hz6)
        have hz7 := hB7.size
        have v1 := v1.below hC
        have v2 := v2.below hC
        have v3 := v3.below hC
        have v4 := v4.below hC
        have v5 := v5.below hC
        clear hC hB6 hz6
        go_wp2_with fail
        refine (twice_nv (k := 149) v6 (ten_thirty big_1) (by omega) (Lib.hid (Nat.mul_one (two 149)))).mono ?_
        rintro e' W8 ⟨A8, k8, c8, rfl, v7, hC⟩
        have hB8 := hB7.trans (hC.mono hz7)
        have hz8 := hB8.size
        have v1 := v1.below hC
        have v2 := v2.below hC
        have v3 := v3.below hC
        have v4 := v4.below hC
        have v5 := v5.below hC
        have v6 := v6.below hC
        clear hC hB7 hz7
        go_wp2_with fail
        refine (rbelow_at SC).mono ?_
        rintro e' w' ⟨rfl, rfl⟩
        have l1 := nil_len v3 X0.out
        have l2 := nil_len v5 Z0.out
        go_wp2
        go_ret
        exact ⟨by rw [HE.out]; try rfl, hB8⟩
      · have HE : Hid (fmaP way a b c = rnd way sn (X + Z) (two 149)) := Lib.hid (by rw [hl, if_neg (fun h => hz0 h.2)]; unfold sumW; rw [if_pos hss])
        have X0 := Lib.hid hx0
        have Z0 := Lib.hid hz0
        clear hl hss hx0 hz0
        go_enter Try.func90, Try.ntmps90
        have hB0 := Below.refl w.heap.size w
        have hz0 := hB0.size
        go_wp2_with fail
        refine (rmul_at h1 h2 HM).mono ?_
        rintro e' W1 ⟨rfl, hC⟩
        have hB1 := hB0.trans (hC.mono hz0)
        have hz1 := hB1.size
        clear hC hB0 hz0
        go_wp2_with fail
        refine (rbelow_at SA).mono ?_
        rintro e' w' ⟨rfl, rfl⟩
        go_wp2_with fail
        refine (rbelow_at SB).mono ?_
        rintro e' w' ⟨rfl, rfl⟩
        go_wp2_with fail
        refine (rabs_at h1 HX).mono ?_
        rintro e' w' ⟨rfl, rfl⟩
        go_wp2_with fail
        refine (rabs_at h2 HY).mono ?_
        rintro e' w' ⟨rfl, rfl⟩
        go_wp2_with fail
        refine (rnone_at h1 NA).mono ?_
        rintro e' w' ⟨rfl, rfl⟩
        go_wp2_with fail
        refine (rnone_at h2 NB).mono ?_
        rintro e' w' ⟨rfl, rfl⟩
        go_wp2_with fail
        refine (rnone_at h3 NC).mono ?_
        rintro e' w' ⟨rfl, rfl⟩
        go_wp2_with fail
        refine (rnone_at HML NM).mono ?_
        rintro e' w' ⟨rfl, rfl⟩
        go_wp2_with fail
        refine (rabs_at h3 HZ).mono ?_
        rintro e' w' ⟨rfl, rfl⟩
        go_wp2_with fail
        refine (rabs_at h1 HX).mono ?_
        rintro e' w' ⟨rfl, rfl⟩
        go_wp2_with fail
        refine (amount_nv x _ (by omega)).mono ?_
        rintro e' W2 ⟨A2, k2, c2, rfl, v1, hC⟩
        have hB2 := hB1.trans (hC.mono hz1)
        have hz2 := hB2.size
        clear hC hB1 hz1
        go_wp2_with fail
        refine (rabs_at h2 HY).mono ?_
        rintro e' w' ⟨rfl, rfl⟩
        go_wp2_with fail
        refine (amount_nv y _ (by omega)).mono ?_
        rintro e' W3 ⟨A3, k3, c3, rfl, v2, hC⟩
        have hB3 := hB2.trans (hC.mono hz2)
        have hz3 := hB3.size
        have v1 := v1.below hC
        clear hC hB2 hz2
        go_wp2_with fail
        refine (times_nv v1 v2 (amt_big (by omega)) (amt_big (by omega)) HXX).mono ?_
        rintro e' W4 ⟨A4, k4, c4, rfl, v3, hC⟩
        have hB4 := hB3.trans (hC.mono hz3)
        have hz4 := hB4.size
        have v1 := v1.below hC
        have v2 := v2.below hC
        clear hC hB3 hz3
        go_wp2_with fail
        refine (rabs_at h3 HZ).mono ?_
        rintro e' w' ⟨rfl, rfl⟩
        go_wp2_with fail
        refine (amount_nv z _ (by omega)).mono ?_
        rintro e' W5 ⟨A5, k5, c5, rfl, v4, hC⟩
        have hB5 := hB4.trans (hC.mono hz4)
        have hz5 := hB5.size
        have v1 := v1.below hC
        have v2 := v2.below hC
        have v3 := v3.below hC
        clear hC hB4 hz4
        go_wp2_with fail
        refine (twice_nv (k := 149) v4 (amt_big (by omega)) (by omega) HZZ).mono ?_
        rintro e' W6 ⟨A6, k6, c6, rfl, v5, hC⟩
        have hB6 := hB5.trans (hC.mono hz5)
        have hz6 := hB6.size
        have v1 := v1.below hC
        have v2 := v2.below hC
        have v3 := v3.below hC
        have v4 := v4.below hC
        clear hC hB5 hz5
        go_wp2_with fail
        refine (of_nv 1 _ (Lib.hid (by decide))).mono ?_
        rintro e' W7 ⟨A7, k7, c7, rfl, v6, hC⟩
        have hB7 := hB6.trans (hC.mono hz6)
        have hz7 := hB7.size
        have v1 := v1.below hC
        have v2 := v2.below hC
        have v3 := v3.below hC
        have v4 := v4.below hC
        have v5 := v5.below hC
        clear hC hB6 hz6
        go_wp2_with fail
        refine (twice_nv (k := 149) v6 (ten_thirty big_1) (by omega) (Lib.hid (Nat.mul_one (two 149)))).mono ?_
        rintro e' W8 ⟨A8, k8, c8, rfl, v7, hC⟩
        have hB8 := hB7.trans (hC.mono hz7)
        have hz8 := hB8.size
        have v1 := v1.below hC
        have v2 := v2.below hC
        have v3 := v3.below hC
        have v4 := v4.below hC
        have v5 := v5.below hC
        have v6 := v6.below hC
        clear hC hB7 hz7
        go_wp2_with fail
        refine (rbelow_at SC).mono ?_
        rintro e' w' ⟨rfl, rfl⟩
        have l1 := nil_len v3 X0.out
        have l2 := some_len v5 Z0.out
        go_wp2_with fail
        refine (plus_nv v3 v5 (ten_thirty HXB.out) (ten_thirty HZB.out) (Lib.hid rfl)).mono ?_
        rintro e' W9 ⟨A9, k9, c9, rfl, v8, hC⟩
        have hB9 := hB8.trans (hC.mono hz8)
        have hz9 := hB9.size
        have v1 := v1.below hC
        have v2 := v2.below hC
        have v3 := v3.below hC
        have v4 := v4.below hC
        have v5 := v5.below hC
        have v6 := v6.below hC
        have v7 := v7.below hC
        clear hC hB8 hz8
        go_wp2_with fail
        refine (rounded_any v8 v7 HSB (Lib.hid big149)).mono ?_
        rintro e' W10 ⟨rfl, hC⟩
        have hB10 := hB9.trans (hC.mono hz9)
        have hz10 := hB10.size
        clear hC hB9 hz9
        go_wp2
        go_ret
        exact ⟨by rw [HE.out]; try rfl, hB10⟩
    · have HE : Hid (fmaP way a b c = rnd way sn (X + Z) (two 149)) := Lib.hid (by rw [hl, if_neg (fun h => hx0 h.1)]; unfold sumW; rw [if_pos hss])
      have X0 := Lib.hid hx0
      clear hl hss hx0
      go_enter Try.func90, Try.ntmps90
      have hB0 := Below.refl w.heap.size w
      have hz0 := hB0.size
      go_wp2_with fail
      refine (rmul_at h1 h2 HM).mono ?_
      rintro e' W1 ⟨rfl, hC⟩
      have hB1 := hB0.trans (hC.mono hz0)
      have hz1 := hB1.size
      clear hC hB0 hz0
      go_wp2_with fail
      refine (rbelow_at SA).mono ?_
      rintro e' w' ⟨rfl, rfl⟩
      go_wp2_with fail
      refine (rbelow_at SB).mono ?_
      rintro e' w' ⟨rfl, rfl⟩
      go_wp2_with fail
      refine (rabs_at h1 HX).mono ?_
      rintro e' w' ⟨rfl, rfl⟩
      go_wp2_with fail
      refine (rabs_at h2 HY).mono ?_
      rintro e' w' ⟨rfl, rfl⟩
      go_wp2_with fail
      refine (rnone_at h1 NA).mono ?_
      rintro e' w' ⟨rfl, rfl⟩
      go_wp2_with fail
      refine (rnone_at h2 NB).mono ?_
      rintro e' w' ⟨rfl, rfl⟩
      go_wp2_with fail
      refine (rnone_at h3 NC).mono ?_
      rintro e' w' ⟨rfl, rfl⟩
      go_wp2_with fail
      refine (rnone_at HML NM).mono ?_
      rintro e' w' ⟨rfl, rfl⟩
      go_wp2_with fail
      refine (rabs_at h3 HZ).mono ?_
      rintro e' w' ⟨rfl, rfl⟩
      go_wp2_with fail
      refine (rabs_at h1 HX).mono ?_
      rintro e' w' ⟨rfl, rfl⟩
      go_wp2_with fail
      refine (amount_nv x _ (by omega)).mono ?_
      rintro e' W2 ⟨A2, k2, c2, rfl, v1, hC⟩
      have hB2 := hB1.trans (hC.mono hz1)
      have hz2 := hB2.size
      clear hC hB1 hz1
      go_wp2_with fail
      refine (rabs_at h2 HY).mono ?_
      rintro e' w' ⟨rfl, rfl⟩
      go_wp2_with fail
      refine (amount_nv y _ (by omega)).mono ?_
      rintro e' W3 ⟨A3, k3, c3, rfl, v2, hC⟩
      have hB3 := hB2.trans (hC.mono hz2)
      have hz3 := hB3.size
      have v1 := v1.below hC
      clear hC hB2 hz2
      go_wp2_with fail
      refine (times_nv v1 v2 (amt_big (by omega)) (amt_big (by omega)) HXX).mono ?_
      rintro e' W4 ⟨A4, k4, c4, rfl, v3, hC⟩
      have hB4 := hB3.trans (hC.mono hz3)
      have hz4 := hB4.size
      have v1 := v1.below hC
      have v2 := v2.below hC
      clear hC hB3 hz3
      go_wp2_with fail
      refine (rabs_at h3 HZ).mono ?_
      rintro e' w' ⟨rfl, rfl⟩
      go_wp2_with fail
      refine (amount_nv z _ (by omega)).mono ?_
      rintro e' W5 ⟨A5, k5, c5, rfl, v4, hC⟩
      have hB5 := hB4.trans (hC.mono hz4)
      have hz5 := hB5.size
      have v1 := v1.below hC
      have v2 := v2.below hC
      have v3 := v3.below hC
      clear hC hB4 hz4
      go_wp2_with fail
      refine (twice_nv (k := 149) v4 (amt_big (by omega)) (by omega) HZZ).mono ?_
      rintro e' W6 ⟨A6, k6, c6, rfl, v5, hC⟩
      have hB6 := hB5.trans (hC.mono hz5)
      have hz6 := hB6.size
      have v1 := v1.below hC
      have v2 := v2.below hC
      have v3 := v3.below hC
      have v4 := v4.below hC
      clear hC hB5 hz5
      go_wp2_with fail
      refine (of_nv 1 _ (Lib.hid (by decide))).mono ?_
      rintro e' W7 ⟨A7, k7, c7, rfl, v6, hC⟩
      have hB7 := hB6.trans (hC.mono hz6)
      have hz7 := hB7.size
      have v1 := v1.below hC
      have v2 := v2.below hC
      have v3 := v3.below hC
      have v4 := v4.below hC
      have v5 := v5.below hC
      clear hC hB6 hz6
      go_wp2_with fail
      refine (twice_nv (k := 149) v6 (ten_thirty big_1) (by omega) (Lib.hid (Nat.mul_one (two 149)))).mono ?_
      rintro e' W8 ⟨A8, k8, c8, rfl, v7, hC⟩
      have hB8 := hB7.trans (hC.mono hz7)
      have hz8 := hB8.size
      have v1 := v1.below hC
      have v2 := v2.below hC
      have v3 := v3.below hC
      have v4 := v4.below hC
      have v5 := v5.below hC
      have v6 := v6.below hC
      clear hC hB7 hz7
      go_wp2_with fail
      refine (rbelow_at SC).mono ?_
      rintro e' w' ⟨rfl, rfl⟩
      have l1 := some_len v3 X0.out
      go_wp2_with fail
      refine (plus_nv v3 v5 (ten_thirty HXB.out) (ten_thirty HZB.out) (Lib.hid rfl)).mono ?_
      rintro e' W9 ⟨A9, k9, c9, rfl, v8, hC⟩
      have hB9 := hB8.trans (hC.mono hz8)
      have hz9 := hB9.size
      have v1 := v1.below hC
      have v2 := v2.below hC
      have v3 := v3.below hC
      have v4 := v4.below hC
      have v5 := v5.below hC
      have v6 := v6.below hC
      have v7 := v7.below hC
      clear hC hB8 hz8
      go_wp2_with fail
      refine (rounded_any v8 v7 HSB (Lib.hid big149)).mono ?_
      rintro e' W10 ⟨rfl, hC⟩
      have hB10 := hB9.trans (hC.mono hz9)
      have hz10 := hB10.size
      clear hC hB9 hz9
      go_wp2
      go_ret
      exact ⟨by rw [HE.out]; try rfl, hB10⟩
  have bss : (sn == sc) = false := by rw [beq_eq_false_iff_ne]; exact hss
  have hnot : (!sn) = sc := by revert hss; cases sn <;> cases sc <;> simp
  have hl2 : fmaP way a b c = if X = Z then sgn (way == 2) else if Z < X then rnd way sn (X - Z) (two 149) else rnd way sc (Z - X) (two 149) := by
    rw [hl]
    by_cases hz : X = 0 ∧ Z = 0
    · rw [if_pos hz, if_neg (fun e => hss e.symm), hz.1, hz.2, if_pos rfl]
    · rw [if_neg hz]
      unfold sumW
      rw [if_neg hss]
  by_cases heq : X = Z
  case pos =>
    have HE : Hid (fmaP way a b c = sgn (way == 2)) := Lib.hid (by rw [hl2, if_pos heq])
    have HD : Hid (cmpV X Z = 0) := Lib.hid (cmpV_zero.2 heq)
    clear hl hl2 hss heq hnot
    by_cases hw2 : way = 2
    · subst hw2
      go_enter Try.func90, Try.ntmps90
      have hB0 := Below.refl w.heap.size w
      have hz0 := hB0.size
      go_wp2_with fail
      refine (rmul_at h1 h2 HM).mono ?_
      rintro e' W1 ⟨rfl, hC⟩
      have hB1 := hB0.trans (hC.mono hz0)
      have hz1 := hB1.size
      clear hC hB0 hz0
      go_wp2_with fail
      refine (rbelow_at SA).mono ?_
      rintro e' w' ⟨rfl, rfl⟩
      go_wp2_with fail
      refine (rbelow_at SB).mono ?_
      rintro e' w' ⟨rfl, rfl⟩
      go_wp2_with fail
      refine (rabs_at h1 HX).mono ?_
      rintro e' w' ⟨rfl, rfl⟩
      go_wp2_with fail
      refine (rabs_at h2 HY).mono ?_
      rintro e' w' ⟨rfl, rfl⟩
      go_wp2_with fail
      refine (rnone_at h1 NA).mono ?_
      rintro e' w' ⟨rfl, rfl⟩
      go_wp2_with fail
      refine (rnone_at h2 NB).mono ?_
      rintro e' w' ⟨rfl, rfl⟩
      go_wp2_with fail
      refine (rnone_at h3 NC).mono ?_
      rintro e' w' ⟨rfl, rfl⟩
      go_wp2_with fail
      refine (rnone_at HML NM).mono ?_
      rintro e' w' ⟨rfl, rfl⟩
      go_wp2_with fail
      refine (rabs_at h3 HZ).mono ?_
      rintro e' w' ⟨rfl, rfl⟩
      go_wp2_with fail
      refine (rabs_at h1 HX).mono ?_
      rintro e' w' ⟨rfl, rfl⟩
      go_wp2_with fail
      refine (amount_nv x _ (by omega)).mono ?_
      rintro e' W2 ⟨A2, k2, c2, rfl, v1, hC⟩
      have hB2 := hB1.trans (hC.mono hz1)
      have hz2 := hB2.size
      clear hC hB1 hz1
      go_wp2_with fail
      refine (rabs_at h2 HY).mono ?_
      rintro e' w' ⟨rfl, rfl⟩
      go_wp2_with fail
      refine (amount_nv y _ (by omega)).mono ?_
      rintro e' W3 ⟨A3, k3, c3, rfl, v2, hC⟩
      have hB3 := hB2.trans (hC.mono hz2)
      have hz3 := hB3.size
      have v1 := v1.below hC
      clear hC hB2 hz2
      go_wp2_with fail
      refine (times_nv v1 v2 (amt_big (by omega)) (amt_big (by omega)) HXX).mono ?_
      rintro e' W4 ⟨A4, k4, c4, rfl, v3, hC⟩
      have hB4 := hB3.trans (hC.mono hz3)
      have hz4 := hB4.size
      have v1 := v1.below hC
      have v2 := v2.below hC
      clear hC hB3 hz3
      go_wp2_with fail
      refine (rabs_at h3 HZ).mono ?_
      rintro e' w' ⟨rfl, rfl⟩
      go_wp2_with fail
      refine (amount_nv z _ (by omega)).mono ?_
      rintro e' W5 ⟨A5, k5, c5, rfl, v4, hC⟩
      have hB5 := hB4.trans (hC.mono hz4)
      have hz5 := hB5.size
      have v1 := v1.below hC
      have v2 := v2.below hC
      have v3 := v3.below hC
      clear hC hB4 hz4
      go_wp2_with fail
      refine (twice_nv (k := 149) v4 (amt_big (by omega)) (by omega) HZZ).mono ?_
      rintro e' W6 ⟨A6, k6, c6, rfl, v5, hC⟩
      have hB6 := hB5.trans (hC.mono hz5)
      have hz6 := hB6.size
      have v1 := v1.below hC
      have v2 := v2.below hC
      have v3 := v3.below hC
      have v4 := v4.below hC
      clear hC hB5 hz5
      go_wp2_with fail
      refine (of_nv 1 _ (Lib.hid (by decide))).mono ?_
      rintro e' W7 ⟨A7, k7, c7, rfl, v6, hC⟩
      have hB7 := hB6.trans (hC.mono hz6)
      have hz7 := hB7.size
      have v1 := v1.below hC
      have v2 := v2.below hC
      have v3 := v3.below hC
      have v4 := v4.below hC
      have v5 := v5.below hC
      clear hC hB6 hz6
      go_wp2_with fail
      refine (twice_nv (k := 149) v6 (ten_thirty big_1) (by omega) (Lib.hid (Nat.mul_one (two 149)))).mono ?_
      rintro e' W8 ⟨A8, k8, c8, rfl, v7, hC⟩
      have hB8 := hB7.trans (hC.mono hz7)
      have hz8 := hB8.size
      have v1 := v1.below hC
      have v2 := v2.below hC
      have v3 := v3.below hC
      have v4 := v4.below hC
      have v5 := v5.below hC
      have v6 := v6.below hC
      clear hC hB7 hz7
      go_wp2_with fail
      refine (rbelow_at SC).mono ?_
      rintro e' w' ⟨rfl, rfl⟩
      go_wp2_with fail
      refine (compare_nv v3 v5 (ten_thirty HXB.out) (ten_thirty HZB.out) HD).mono ?_
      rintro e' w' ⟨rfl, nd8, rfl⟩
      have hB9 := below_drewN hB8 nd8
      have hz9 := hB9.size
      have v1 := v1.below (below_drewN (Below.refl _ _) nd8)
      have v2 := v2.below (below_drewN (Below.refl _ _) nd8)
      have v3 := v3.below (below_drewN (Below.refl _ _) nd8)
      have v4 := v4.below (below_drewN (Below.refl _ _) nd8)
      have v5 := v5.below (below_drewN (Below.refl _ _) nd8)
      have v6 := v6.below (below_drewN (Below.refl _ _) nd8)
      have v7 := v7.below (below_drewN (Below.refl _ _) nd8)
      clear hB8 hz8
      go_wp2
      go_ret
      exact ⟨by rw [HE.out]; try rfl, hB9⟩
    · have bw : (way == 2) = false := by simpa using hw2
      rw [bw] at HE
      clear hw2
      go_enter Try.func90, Try.ntmps90
      have hB0 := Below.refl w.heap.size w
      have hz0 := hB0.size
      go_wp2_with fail
      refine (rmul_at h1 h2 HM).mono ?_
      rintro e' W1 ⟨rfl, hC⟩
      have hB1 := hB0.trans (hC.mono hz0)
      have hz1 := hB1.size
      clear hC hB0 hz0
      go_wp2_with fail
      refine (rbelow_at SA).mono ?_
      rintro e' w' ⟨rfl, rfl⟩
      go_wp2_with fail
      refine (rbelow_at SB).mono ?_
      rintro e' w' ⟨rfl, rfl⟩
      go_wp2_with fail
      refine (rabs_at h1 HX).mono ?_
      rintro e' w' ⟨rfl, rfl⟩
      go_wp2_with fail
      refine (rabs_at h2 HY).mono ?_
      rintro e' w' ⟨rfl, rfl⟩
      go_wp2_with fail
      refine (rnone_at h1 NA).mono ?_
      rintro e' w' ⟨rfl, rfl⟩
      go_wp2_with fail
      refine (rnone_at h2 NB).mono ?_
      rintro e' w' ⟨rfl, rfl⟩
      go_wp2_with fail
      refine (rnone_at h3 NC).mono ?_
      rintro e' w' ⟨rfl, rfl⟩
      go_wp2_with fail
      refine (rnone_at HML NM).mono ?_
      rintro e' w' ⟨rfl, rfl⟩
      go_wp2_with fail
      refine (rabs_at h3 HZ).mono ?_
      rintro e' w' ⟨rfl, rfl⟩
      go_wp2_with fail
      refine (rabs_at h1 HX).mono ?_
      rintro e' w' ⟨rfl, rfl⟩
      go_wp2_with fail
      refine (amount_nv x _ (by omega)).mono ?_
      rintro e' W2 ⟨A2, k2, c2, rfl, v1, hC⟩
      have hB2 := hB1.trans (hC.mono hz1)
      have hz2 := hB2.size
      clear hC hB1 hz1
      go_wp2_with fail
      refine (rabs_at h2 HY).mono ?_
      rintro e' w' ⟨rfl, rfl⟩
      go_wp2_with fail
      refine (amount_nv y _ (by omega)).mono ?_
      rintro e' W3 ⟨A3, k3, c3, rfl, v2, hC⟩
      have hB3 := hB2.trans (hC.mono hz2)
      have hz3 := hB3.size
      have v1 := v1.below hC
      clear hC hB2 hz2
      go_wp2_with fail
      refine (times_nv v1 v2 (amt_big (by omega)) (amt_big (by omega)) HXX).mono ?_
      rintro e' W4 ⟨A4, k4, c4, rfl, v3, hC⟩
      have hB4 := hB3.trans (hC.mono hz3)
      have hz4 := hB4.size
      have v1 := v1.below hC
      have v2 := v2.below hC
      clear hC hB3 hz3
      go_wp2_with fail
      refine (rabs_at h3 HZ).mono ?_
      rintro e' w' ⟨rfl, rfl⟩
      go_wp2_with fail
      refine (amount_nv z _ (by omega)).mono ?_
      rintro e' W5 ⟨A5, k5, c5, rfl, v4, hC⟩
      have hB5 := hB4.trans (hC.mono hz4)
      have hz5 := hB5.size
      have v1 := v1.below hC
      have v2 := v2.below hC
      have v3 := v3.below hC
      clear hC hB4 hz4
      go_wp2_with fail
      refine (twice_nv (k := 149) v4 (amt_big (by omega)) (by omega) HZZ).mono ?_
      rintro e' W6 ⟨A6, k6, c6, rfl, v5, hC⟩
      have hB6 := hB5.trans (hC.mono hz5)
      have hz6 := hB6.size
      have v1 := v1.below hC
      have v2 := v2.below hC
      have v3 := v3.below hC
      have v4 := v4.below hC
      clear hC hB5 hz5
      go_wp2_with fail
      refine (of_nv 1 _ (Lib.hid (by decide))).mono ?_
      rintro e' W7 ⟨A7, k7, c7, rfl, v6, hC⟩
      have hB7 := hB6.trans (hC.mono hz6)
      have hz7 := hB7.size
      have v1 := v1.below hC
      have v2 := v2.below hC
      have v3 := v3.below hC
      have v4 := v4.below hC
      have v5 := v5.below hC
      clear hC hB6 hz6
      go_wp2_with fail
      refine (twice_nv (k := 149) v6 (ten_thirty big_1) (by omega) (Lib.hid (Nat.mul_one (two 149)))).mono ?_
      rintro e' W8 ⟨A8, k8, c8, rfl, v7, hC⟩
      have hB8 := hB7.trans (hC.mono hz7)
      have hz8 := hB8.size
      have v1 := v1.below hC
      have v2 := v2.below hC
      have v3 := v3.below hC
      have v4 := v4.below hC
      have v5 := v5.below hC
      have v6 := v6.below hC
      clear hC hB7 hz7
      go_wp2_with fail
      refine (rbelow_at SC).mono ?_
      rintro e' w' ⟨rfl, rfl⟩
      go_wp2_with fail
      refine (compare_nv v3 v5 (ten_thirty HXB.out) (ten_thirty HZB.out) HD).mono ?_
      rintro e' w' ⟨rfl, nd8, rfl⟩
      have hB9 := below_drewN hB8 nd8
      have hz9 := hB9.size
      have v1 := v1.below (below_drewN (Below.refl _ _) nd8)
      have v2 := v2.below (below_drewN (Below.refl _ _) nd8)
      have v3 := v3.below (below_drewN (Below.refl _ _) nd8)
      have v4 := v4.below (below_drewN (Below.refl _ _) nd8)
      have v5 := v5.below (below_drewN (Below.refl _ _) nd8)
      have v6 := v6.below (below_drewN (Below.refl _ _) nd8)
      have v7 := v7.below (below_drewN (Below.refl _ _) nd8)
      clear hB8 hz8
      go_wp2
      go_ret
      exact ⟨by rw [HE.out]; try rfl, hB9⟩
  by_cases hlt : Z < X
  case pos =>
    have HE : Hid (fmaP way a b c = rnd way sn (X - Z) (two 149)) := Lib.hid (by rw [hl2, if_neg heq, if_pos hlt])
    have HD : Hid (cmpV X Z = 1) := Lib.hid (cmpV_gt hlt)
    have HLT := Lib.hid hlt
    clear hl hl2 hss heq hlt hnot
    go_enter Try.func90, Try.ntmps90
    have hB0 := Below.refl w.heap.size w
    have hz0 := hB0.size
    go_wp2_with fail
    refine (rmul_at h1 h2 HM).mono ?_
    rintro e' W1 ⟨rfl, hC⟩
    have hB1 := hB0.trans (hC.mono hz0)
    have hz1 := hB1.size
    clear hC hB0 hz0
    go_wp2_with fail
    refine (rbelow_at SA).mono ?_
    rintro e' w' ⟨rfl, rfl⟩
    go_wp2_with fail
    refine (rbelow_at SB).mono ?_
    rintro e' w' ⟨rfl, rfl⟩
    go_wp2_with fail
    refine (rabs_at h1 HX).mono ?_
    rintro e' w' ⟨rfl, rfl⟩
    go_wp2_with fail
    refine (rabs_at h2 HY).mono ?_
    rintro e' w' ⟨rfl, rfl⟩
    go_wp2_with fail
    refine (rnone_at h1 NA).mono ?_
    rintro e' w' ⟨rfl, rfl⟩
    go_wp2_with fail
    refine (rnone_at h2 NB).mono ?_
    rintro e' w' ⟨rfl, rfl⟩
    go_wp2_with fail
    refine (rnone_at h3 NC).mono ?_
    rintro e' w' ⟨rfl, rfl⟩
    go_wp2_with fail
    refine (rnone_at HML NM).mono ?_
    rintro e' w' ⟨rfl, rfl⟩
    go_wp2_with fail
    refine (rabs_at h3 HZ).mono ?_
    rintro e' w' ⟨rfl, rfl⟩
    go_wp2_with fail
    refine (rabs_at h1 HX).mono ?_
    rintro e' w' ⟨rfl, rfl⟩
    go_wp2_with fail
    refine (amount_nv x _ (by omega)).mono ?_
    rintro e' W2 ⟨A2, k2, c2, rfl, v1, hC⟩
    have hB2 := hB1.trans (hC.mono hz1)
    have hz2 := hB2.size
    clear hC hB1 hz1
    go_wp2_with fail
    refine (rabs_at h2 HY).mono ?_
    rintro e' w' ⟨rfl, rfl⟩
    go_wp2_with fail
    refine (amount_nv y _ (by omega)).mono ?_
    rintro e' W3 ⟨A3, k3, c3, rfl, v2, hC⟩
    have hB3 := hB2.trans (hC.mono hz2)
    have hz3 := hB3.size
    have v1 := v1.below hC
    clear hC hB2 hz2
    go_wp2_with fail
    refine (times_nv v1 v2 (amt_big (by omega)) (amt_big (by omega)) HXX).mono ?_
    rintro e' W4 ⟨A4, k4, c4, rfl, v3, hC⟩
    have hB4 := hB3.trans (hC.mono hz3)
    have hz4 := hB4.size
    have v1 := v1.below hC
    have v2 := v2.below hC
    clear hC hB3 hz3
    go_wp2_with fail
    refine (rabs_at h3 HZ).mono ?_
    rintro e' w' ⟨rfl, rfl⟩
    go_wp2_with fail
    refine (amount_nv z _ (by omega)).mono ?_
    rintro e' W5 ⟨A5, k5, c5, rfl, v4, hC⟩
    have hB5 := hB4.trans (hC.mono hz4)
    have hz5 := hB5.size
    have v1 := v1.below hC
    have v2 := v2.below hC
    have v3 := v3.below hC
    clear hC hB4 hz4
    go_wp2_with fail
    refine (twice_nv (k := 149) v4 (amt_big (by omega)) (by omega) HZZ).mono ?_
    rintro e' W6 ⟨A6, k6, c6, rfl, v5, hC⟩
    have hB6 := hB5.trans (hC.mono hz5)
    have hz6 := hB6.size
    have v1 := v1.below hC
    have v2 := v2.below hC
    have v3 := v3.below hC
    have v4 := v4.below hC
    clear hC hB5 hz5
    go_wp2_with fail
    refine (of_nv 1 _ (Lib.hid (by decide))).mono ?_
    rintro e' W7 ⟨A7, k7, c7, rfl, v6, hC⟩
    have hB7 := hB6.trans (hC.mono hz6)
    have hz7 := hB7.size
    have v1 := v1.below hC
    have v2 := v2.below hC
    have v3 := v3.below hC
    have v4 := v4.below hC
    have v5 := v5.below hC
    clear hC hB6 hz6
    go_wp2_with fail
    refine (twice_nv (k := 149) v6 (ten_thirty big_1) (by omega) (Lib.hid (Nat.mul_one (two 149)))).mono ?_
    rintro e' W8 ⟨A8, k8, c8, rfl, v7, hC⟩
    have hB8 := hB7.trans (hC.mono hz7)
    have hz8 := hB8.size
    have v1 := v1.below hC
    have v2 := v2.below hC
    have v3 := v3.below hC
    have v4 := v4.below hC
    have v5 := v5.below hC
    have v6 := v6.below hC
    clear hC hB7 hz7
    go_wp2_with fail
    refine (rbelow_at SC).mono ?_
    rintro e' w' ⟨rfl, rfl⟩
    go_wp2_with fail
    refine (compare_nv v3 v5 (ten_thirty HXB.out) (ten_thirty HZB.out) HD).mono ?_
    rintro e' w' ⟨rfl, nd8, rfl⟩
    have hB9 := below_drewN hB8 nd8
    have hz9 := hB9.size
    have v1 := v1.below (below_drewN (Below.refl _ _) nd8)
    have v2 := v2.below (below_drewN (Below.refl _ _) nd8)
    have v3 := v3.below (below_drewN (Below.refl _ _) nd8)
    have v4 := v4.below (below_drewN (Below.refl _ _) nd8)
    have v5 := v5.below (below_drewN (Below.refl _ _) nd8)
    have v6 := v6.below (below_drewN (Below.refl _ _) nd8)
    have v7 := v7.below (below_drewN (Below.refl _ _) nd8)
    clear hB8 hz8
    go_wp2_with fail
    refine (minus_nv v3 v5 (ten_thirty HXB.out) (Nat.le_of_lt HLT.out) (Lib.hid rfl)).mono ?_
    rintro e' W10 ⟨A10, k10, c10, rfl, v8, hC⟩
    have hB10 := hB9.trans (hC.mono hz9)
    have hz10 := hB10.size
    have v1 := v1.below hC
    have v2 := v2.below hC
    have v3 := v3.below hC
    have v4 := v4.below hC
    have v5 := v5.below hC
    have v6 := v6.below hC
    have v7 := v7.below hC
    clear hC hB9 hz9
    go_wp2_with fail
    refine (rounded_any v8 v7 (Lib.hid (Nat.lt_of_le_of_lt (Nat.sub_le _ _) HXB.out)) (Lib.hid big149)).mono ?_
    rintro e' W11 ⟨rfl, hC⟩
    have hB11 := hB10.trans (hC.mono hz10)
    have hz11 := hB11.size
    clear hC hB10 hz10
    go_wp2
    go_ret
    exact ⟨by rw [HE.out]; try rfl, hB11⟩
  have HE : Hid (fmaP way a b c = rnd way sc (Z - X) (two 149)) := Lib.hid (by rw [hl2, if_neg heq, if_neg hlt])
  have HD : Hid (cmpV X Z = -1) := Lib.hid (cmpV_lt (by omega))
  have HLT : Hid (X < Z) := Lib.hid (by omega)
  clear hl hl2 hss heq hlt
  go_enter Try.func90, Try.ntmps90
  have hB0 := Below.refl w.heap.size w
  have hz0 := hB0.size
  go_wp2_with fail
  refine (rmul_at h1 h2 HM).mono ?_
  rintro e' W1 ⟨rfl, hC⟩
  have hB1 := hB0.trans (hC.mono hz0)
  have hz1 := hB1.size
  clear hC hB0 hz0
  go_wp2_with fail
  refine (rbelow_at SA).mono ?_
  rintro e' w' ⟨rfl, rfl⟩
  go_wp2_with fail
  refine (rbelow_at SB).mono ?_
  rintro e' w' ⟨rfl, rfl⟩
  go_wp2_with fail
  refine (rabs_at h1 HX).mono ?_
  rintro e' w' ⟨rfl, rfl⟩
  go_wp2_with fail
  refine (rabs_at h2 HY).mono ?_
  rintro e' w' ⟨rfl, rfl⟩
  go_wp2_with fail
  refine (rnone_at h1 NA).mono ?_
  rintro e' w' ⟨rfl, rfl⟩
  go_wp2_with fail
  refine (rnone_at h2 NB).mono ?_
  rintro e' w' ⟨rfl, rfl⟩
  go_wp2_with fail
  refine (rnone_at h3 NC).mono ?_
  rintro e' w' ⟨rfl, rfl⟩
  go_wp2_with fail
  refine (rnone_at HML NM).mono ?_
  rintro e' w' ⟨rfl, rfl⟩
  go_wp2_with fail
  refine (rabs_at h3 HZ).mono ?_
  rintro e' w' ⟨rfl, rfl⟩
  go_wp2_with fail
  refine (rabs_at h1 HX).mono ?_
  rintro e' w' ⟨rfl, rfl⟩
  go_wp2_with fail
  refine (amount_nv x _ (by omega)).mono ?_
  rintro e' W2 ⟨A2, k2, c2, rfl, v1, hC⟩
  have hB2 := hB1.trans (hC.mono hz1)
  have hz2 := hB2.size
  clear hC hB1 hz1
  go_wp2_with fail
  refine (rabs_at h2 HY).mono ?_
  rintro e' w' ⟨rfl, rfl⟩
  go_wp2_with fail
  refine (amount_nv y _ (by omega)).mono ?_
  rintro e' W3 ⟨A3, k3, c3, rfl, v2, hC⟩
  have hB3 := hB2.trans (hC.mono hz2)
  have hz3 := hB3.size
  have v1 := v1.below hC
  clear hC hB2 hz2
  go_wp2_with fail
  refine (times_nv v1 v2 (amt_big (by omega)) (amt_big (by omega)) HXX).mono ?_
  rintro e' W4 ⟨A4, k4, c4, rfl, v3, hC⟩
  have hB4 := hB3.trans (hC.mono hz3)
  have hz4 := hB4.size
  have v1 := v1.below hC
  have v2 := v2.below hC
  clear hC hB3 hz3
  go_wp2_with fail
  refine (rabs_at h3 HZ).mono ?_
  rintro e' w' ⟨rfl, rfl⟩
  go_wp2_with fail
  refine (amount_nv z _ (by omega)).mono ?_
  rintro e' W5 ⟨A5, k5, c5, rfl, v4, hC⟩
  have hB5 := hB4.trans (hC.mono hz4)
  have hz5 := hB5.size
  have v1 := v1.below hC
  have v2 := v2.below hC
  have v3 := v3.below hC
  clear hC hB4 hz4
  go_wp2_with fail
  refine (twice_nv (k := 149) v4 (amt_big (by omega)) (by omega) HZZ).mono ?_
  rintro e' W6 ⟨A6, k6, c6, rfl, v5, hC⟩
  have hB6 := hB5.trans (hC.mono hz5)
  have hz6 := hB6.size
  have v1 := v1.below hC
  have v2 := v2.below hC
  have v3 := v3.below hC
  have v4 := v4.below hC
  clear hC hB5 hz5
  go_wp2_with fail
  refine (of_nv 1 _ (Lib.hid (by decide))).mono ?_
  rintro e' W7 ⟨A7, k7, c7, rfl, v6, hC⟩
  have hB7 := hB6.trans (hC.mono hz6)
  have hz7 := hB7.size
  have v1 := v1.below hC
  have v2 := v2.below hC
  have v3 := v3.below hC
  have v4 := v4.below hC
  have v5 := v5.below hC
  clear hC hB6 hz6
  go_wp2_with fail
  refine (twice_nv (k := 149) v6 (ten_thirty big_1) (by omega) (Lib.hid (Nat.mul_one (two 149)))).mono ?_
  rintro e' W8 ⟨A8, k8, c8, rfl, v7, hC⟩
  have hB8 := hB7.trans (hC.mono hz7)
  have hz8 := hB8.size
  have v1 := v1.below hC
  have v2 := v2.below hC
  have v3 := v3.below hC
  have v4 := v4.below hC
  have v5 := v5.below hC
  have v6 := v6.below hC
  clear hC hB7 hz7
  go_wp2_with fail
  refine (rbelow_at SC).mono ?_
  rintro e' w' ⟨rfl, rfl⟩
  go_wp2_with fail
  refine (compare_nv v3 v5 (ten_thirty HXB.out) (ten_thirty HZB.out) HD).mono ?_
  rintro e' w' ⟨rfl, nd8, rfl⟩
  have hB9 := below_drewN hB8 nd8
  have hz9 := hB9.size
  have v1 := v1.below (below_drewN (Below.refl _ _) nd8)
  have v2 := v2.below (below_drewN (Below.refl _ _) nd8)
  have v3 := v3.below (below_drewN (Below.refl _ _) nd8)
  have v4 := v4.below (below_drewN (Below.refl _ _) nd8)
  have v5 := v5.below (below_drewN (Below.refl _ _) nd8)
  have v6 := v6.below (below_drewN (Below.refl _ _) nd8)
  have v7 := v7.below (below_drewN (Below.refl _ _) nd8)
  clear hB8 hz8
  go_wp2_with fail
  refine (minus_nv v5 v3 (ten_thirty HZB.out) (Nat.le_of_lt HLT.out) (Lib.hid rfl)).mono ?_
  rintro e' W10 ⟨A10, k10, c10, rfl, v8, hC⟩
  have hB10 := hB9.trans (hC.mono hz9)
  have hz10 := hB10.size
  have v1 := v1.below hC
  have v2 := v2.below hC
  have v3 := v3.below hC
  have v4 := v4.below hC
  have v5 := v5.below hC
  have v6 := v6.below hC
  have v7 := v7.below hC
  clear hC hB9 hz9
  go_wp2_with fail
  refine (rounded_any v8 v7 (Lib.hid (Nat.lt_of_le_of_lt (Nat.sub_le _ _) HZB.out)) (Lib.hid big149)).mono ?_
  rintro e' W11 ⟨rfl, hC⟩
  have hB11 := hB10.trans (hC.mono hz10)
  have hz11 := hB11.size
  clear hC hB10 hz10
  go_wp2
  go_ret
  exact ⟨by rw [HE.out]; try rfl, hB11⟩
theorem rfma0_any (a b c : Nat) (w : World) (h1 : Hid (a < 4294967296)) (h2 : Hid (b < 4294967296)) (h3 : Hid (c < 4294967296)) :
    Calls Try.prog 72 #[.int .u32 (a : Int), .int .u32 (b : Int), .int .u32 (c : Int)] w (BR w (fmaP 0 a b c)) := by
  go_enter Try.func72, Try.ntmps72
  go_wp2_with fail
  refine (rfma_any 0 a b c _ h1 h2 h3).mono ?_
  rintro e w' ⟨rfl, hb⟩
  go_wp2
  go_ret
  exact ⟨rfl, hb⟩
end Go.Proofs.Ytegeadkilolngaa

/- The document's Whole, of the three kinds. -/
namespace Go.Proofs.Ytegeadkilolngaa
open Go.RowKit

theorem whole_fin {neg : Bool} {m : Nat} (hm : m < 18446744073709551616) : roundP 0 neg 0 m false = rnd 0 neg (two 149 * m) 1 := by
  rw [from_law hm]
  by_cases h0 : m = 0
  · rw [if_pos h0, h0, Nat.mul_zero, rnd_zero 0 neg (by decide)]
  · rw [if_neg h0]
theorem big_24 {m : Nat} (h : m ≤ 67108864) : m < two 10000 := Nat.lt_of_le_of_lt h (Nat.lt_of_lt_of_le (show 67108864 < two 64 by decide) (two_le (by omega)))
theorem big_149n {m : Nat} (h : m ≤ 67108864) : two 149 * m < two 10000 := by
  have h1 : two 149 * m ≤ two 149 * two 64 := Nat.mul_le_mul_left _ (Nat.le_trans h (by decide))
  rw [← two_add] at h1
  have h2 := two_le (show 149 + 64 + 1 ≤ 10000 by omega)
  have h3 := two_pos (149 + 64)
  rw [two_succ] at h2
  omega
/-- what is cut off, and how it stands to a half -/
theorem whole_parts {a d : Nat} (hd : oE a = -(d : Int)) (h1 : 1 ≤ d) (h149 : d ≤ 149) :
    cutA a = oS a / two d ∧ (two 149 * cutA a = amt (absP a) ↔ oS a % two d = 0) ∧ (two 149 * (2 * cutA a + 1) < two 1 * amt (absP a) ↔ two (d - 1) < oS a % two d) ∧ (two 1 * amt (absP a) = two 149 * (2 * cutA a + 1) ↔ oS a % two d = two (d - 1)) := by
  have hc : cutA a = oS a / two d := by
    unfold cutA
    rw [hd, if_neg (by omega)]
    congr 2
    omega
  have hamt : amt (absP a) = oS a * two (149 - d) := by
    rw [← ofin_amt, hd]
    congr 2
    omega
  have h149e : two 149 = two d * two (149 - d) := by rw [← two_add]; congr 1; omega
  have hdd : two d = 2 * two (d - 1) := by rw [← two_succ]; congr 1; omega
  have hdm := Nat.div_add_mod (oS a) (two d)
  have hT := two_pos (149 - d)
  rw [hc, hamt]
  obtain ⟨n, hn⟩ : ∃ n, oS a / two d = n := ⟨_, rfl⟩
  obtain ⟨l, hl⟩ : ∃ n, oS a % two d = n := ⟨_, rfl⟩
  rw [hn, hl] at hdm
  rw [hn, hl]
  rw [show two 1 = 2 from rfl]
  have e1 : two 149 * n = two d * n * two (149 - d) := by rw [h149e, Nat.mul_right_comm]
  have e2 : two 149 * (2 * n + 1) = (2 * (two d * n) + two d) * two (149 - d) := by
    rw [h149e, Nat.mul_right_comm, Nat.mul_add, Nat.mul_one, Nat.mul_left_comm]
  have e3 : 2 * (oS a * two (149 - d)) = 2 * oS a * two (149 - d) := by rw [Nat.mul_assoc]
  rw [e1, e2, e3, ← hdm]
  generalize two d * n = x at *
  generalize two (149 - d) = T at *
  generalize two (d - 1) = H at *
  refine ⟨rfl, ?_, ?_, ?_⟩
  · constructor
    · intro h; have := Nat.eq_of_mul_eq_mul_right hT h; omega
    · intro h; rw [h, Nat.add_zero]
  · constructor
    · intro h; have := Nat.lt_of_mul_lt_mul_right h; omega
    · intro h; exact Nat.mul_lt_mul_of_pos_right (by omega) hT
  · constructor
    · intro h; have := Nat.eq_of_mul_eq_mul_right hT h; omega
    · intro h; congr 1; omega
theorem whole_zero {a : Nat} (h : oE a = 0) : two 149 * cutA a = amt (absP a) := by
  unfold cutA
  rw [← ofin_amt, h, if_pos (Int.le_refl _)]
  show two 149 * (oS a * 1) = oS a * two 149
  rw [Nat.mul_one, Nat.mul_comm]
theorem half_cmp {l d p q : Nat} {v : Int} {nb od : Bool} (h1 : q < p ↔ two (d - 1) < l) (h2 : p = q ↔ l = two (d - 1)) (hv : cmpV p q = v) : upP 2 nb (halfP l d) od = (decide (0 < v) || (decide (v = 0) && od)) := by
  have e : halfP l d = v := by
    rw [← hv]
    unfold halfP cmpV
    by_cases c1 : two (d - 1) < l
    · rw [if_pos c1, if_neg (by have := h1.2 c1; omega), if_pos (h1.2 c1)]
    · have n1 : ¬ q < p := fun e => c1 (h1.1 e)
      by_cases c2 : l = two (d - 1)
      · have := h2.2 c2
        rw [if_neg c1, if_pos c2, if_neg (by omega), if_neg n1]
      · have n2 : ¬ p = q := fun e => c2 (h2.1 e)
        rw [if_neg c1, if_neg c2, if_pos (by omega)]
  rw [e]
  rfl
set_option maxRecDepth 100000 in
set_option maxHeartbeats 1600000 in
theorem rwhole0_any (a : Nat) (w : World) (h : Hid (a < 4294967296)) :
    Calls Try.prog 70 #[.int .i64 0, .int .u32 (a : Int)] w (BR w (wholeP 0 a)) := by
  obtain ⟨x, hx⟩ : ∃ x, absP a = x := ⟨_, rfl⟩
  obtain ⟨sa, hsa⟩ : ∃ s, decide (2147483648 ≤ a) = s := ⟨_, rfl⟩
  have HX := Lib.hid hx
  have SA := Lib.hid hsa
  cases hna : nanP a
  case true =>
    have NA := Lib.hid hna
    have HE : Hid (wholeP 0 a = 2143289344) := Lib.hid (by unfold wholeP; rw [if_pos hna])
    clear hna hx hsa
    go_enter Try.func70, Try.ntmps70
    have hB0 := Below.refl w.heap.size w
    have hz0 := hB0.size
    go_wp2_with fail
    refine (rnone_at h NA).mono ?_
    rintro e' w' ⟨rfl, rfl⟩
    go_wp2
    go_ret
    exact ⟨by rw [HE.out]; try rfl, hB0⟩
  have NA := Lib.hid hna
  have hno : ¬ nanP a = true := by rw [hna]; decide
  have hex : a / 8388608 % 256 = x / 8388608 := by rw [← hx]; unfold absP; omega
  by_cases hbig : 1266679808 ≤ x
  case pos =>
    have h0e : 0 ≤ oE a := by
      unfold oE
      rw [hex]
      split <;> omega
    have HE : Hid (wholeP 0 a = a) := Lib.hid (by
      unfold wholeP
      rw [if_neg hno, if_pos (.inr (.inl h0e))])
    have bb : decide ((1266679808 : Int) ≤ (x : Int)) = true := decide_eq_true (by omega)
    clear hna hno hx hsa hex hbig h0e
    go_enter Try.func70, Try.ntmps70
    have hB0 := Below.refl w.heap.size w
    have hz0 := hB0.size
    go_wp2_with fail
    refine (rnone_at h NA).mono ?_
    rintro e' w' ⟨rfl, rfl⟩
    go_wp2_with fail
    refine (rabs_at h HX).mono ?_
    rintro e' w' ⟨rfl, rfl⟩
    go_wp2
    go_ret
    exact ⟨by rw [HE.out]; try rfl, hB0⟩
  have bb : decide ((1266679808 : Int) ≤ (x : Int)) = false := decide_eq_false (by omega)
  by_cases hx0 : x = 0
  case pos =>
    have HE : Hid (wholeP 0 a = a) := Lib.hid (by unfold wholeP; rw [if_neg hno, if_pos (.inr (.inr (o_nil.2 (hx.trans hx0))))])
    have b0 : ((x : Int) == 0) = true := int_eq (y := 0) hx0
    clear hna hno hx hsa hex hbig hx0
    go_enter Try.func70, Try.ntmps70
    have hB0 := Below.refl w.heap.size w
    have hz0 := hB0.size
    go_wp2_with fail
    refine (rnone_at h NA).mono ?_
    rintro e' w' ⟨rfl, rfl⟩
    go_wp2_with fail
    refine (rabs_at h HX).mono ?_
    rintro e' w' ⟨rfl, rfl⟩
    go_wp2
    go_ret
    exact ⟨by rw [HE.out]; try rfl, hB0⟩
  have b0 : ((x : Int) == 0) = false := int_ne (y := 0) hx0
  have hoE : oE a ≤ 0 := by
    unfold oE
    rw [hex]
    split <;> omega
  obtain ⟨ob1, ob2, ob3⟩ := o_bounds a
  obtain ⟨N, hN⟩ : ∃ n, cutA a = n := ⟨_, rfl⟩
  have HN := Lib.hid hN
  have HXL : Hid (x < 1266679808) := Lib.hid (by omega)
  have hxl : x ≤ 2139095040 := by omega
  have hs0 : ¬ oS a = 0 := fun e => hx0 (hx.symm.trans (o_nil.1 e))
  have IA : ¬ infP a = true := fun e => by
    have := hx.symm.trans (inf_abs.1 e)
    omega
  have hnn : N ≤ oS a := by
    rw [← hN]
    unfold cutA
    by_cases he : 0 ≤ oE a
    · rw [if_pos he, show (oE a).toNat = 0 from by omega, show two 0 = 1 from rfl, Nat.mul_one]; exact Nat.le_refl _
    · rw [if_neg he]; exact Nat.div_le_self _ _
  have hN24 : N < 16777216 := by omega
  obtain ⟨c, hc⟩ : ∃ c, cmpV (two 149 * N) (amt x) = c := ⟨_, rfl⟩
  have HC := Lib.hid hc
  by_cases hexa : two 149 * N = amt x
  case pos =>
    have HE : Hid (wholeP 0 a = a) := Lib.hid (by
      unfold wholeP
      rw [if_neg hno]
      by_cases he : 0 ≤ oE a
      · rw [if_pos (.inr (.inl he))]
      · rw [if_neg (by simp [IA, hs0]; omega)]
        obtain ⟨d, hd⟩ : ∃ d : Nat, oE a = -(d : Int) := ⟨(-oE a).toNat, by omega⟩
        have hp := whole_parts hd (by omega) (by omega)
        rw [hN, hx] at hp
        rw [hd, show (-(-(d : Int))).toNat = d from by omega, if_pos (hp.2.1.1 hexa)])
    have hc0 : c = 0 := by rw [← hc]; exact cmpV_zero.2 hexa
    subst hc0
    clear hna hno hx hsa hex hbig hx0 hoE ob1 ob2 ob3 hs0 IA hnn hc hexa
    go_enter Try.func70, Try.ntmps70
    have hB0 := Below.refl w.heap.size w
    have hz0 := hB0.size
    go_wp2_with fail
    refine (rnone_at h NA).mono ?_
    rintro e' w' ⟨rfl, rfl⟩
    go_wp2_with fail
    refine (rabs_at h HX).mono ?_
    rintro e' w' ⟨rfl, rfl⟩
    go_wp2_with fail
    refine (rbelow_at SA).mono ?_
    rintro e' w' ⟨rfl, rfl⟩
    go_wp2_with fail
    refine (rcut_any a _ h).mono ?_
    rintro e' w' ⟨-, hc, rfl⟩
    rw [hc (by have h1 := HXL.out; have h2 := HX.out; omega), HN.out]
    clear hc
    go_wp2_with fail
    refine (amount_nv x _ (by omega)).mono ?_
    rintro e' W1 ⟨A1, k1, c1, rfl, v1, hC⟩
    have hB1 := hB0.trans (hC.mono hz0)
    have hz1 := hB1.size
    clear hC hB0 hz0
    go_wp2_with fail
    refine (of_nv N _ (Lib.hid (by omega))).mono ?_
    rintro e' W2 ⟨A2, k2, c2, rfl, v2, hC⟩
    have hB2 := hB1.trans (hC.mono hz1)
    have hz2 := hB2.size
    have v1 := v1.below hC
    clear hC hB1 hz1
    go_wp2_with fail
    refine (twice_nv (k := 149) v2 (ten_thirty (big_24 (by omega))) (by omega) (Lib.hid rfl)).mono ?_
    rintro e' W3 ⟨A3, k3, c3, rfl, v3, hC⟩
    have hB3 := hB2.trans (hC.mono hz2)
    have hz3 := hB3.size
    have v1 := v1.below hC
    have v2 := v2.below hC
    clear hC hB2 hz2
    go_wp2_with fail
    refine (compare_nv v3 v1 (ten_thirty (big_149n (by omega))) (amt_big (by omega)) HC).mono ?_
    rintro e' w' ⟨rfl, nd3, rfl⟩
    have hB4 := below_drewN hB3 nd3
    have hz4 := hB4.size
    have v1 := v1.below (below_drewN (Below.refl _ _) nd3)
    have v2 := v2.below (below_drewN (Below.refl _ _) nd3)
    have v3 := v3.below (below_drewN (Below.refl _ _) nd3)
    clear hB3 hz3
    go_wp2
    go_ret
    exact ⟨by rw [HE.out]; try rfl, hB4⟩
  have bc : (c == 0) = false := by rw [beq_eq_false_iff_ne, ← hc]; exact fun e => hexa (cmpV_zero.1 e)
  have hlt0 : oE a < 0 := by
    rcases Int.lt_or_eq_of_le hoE with h | h
    · exact h
    · have := whole_zero h
      rw [hN, hx] at this
      exact absurd this hexa
  obtain ⟨d, hd⟩ : ∃ d : Nat, oE a = -(d : Int) := ⟨(-oE a).toNat, by omega⟩
  obtain ⟨p1, p2, p3, p4⟩ := whole_parts hd (by omega) (by omega)
  rw [hN, hx] at p2 p3 p4
  rw [hN] at p1
  have hl0 : ¬ oS a % two d = 0 := fun e => hexa (p2.2 e)
  have hE0 : wholeP 0 a = roundP 0 sa 0 (if upP 0 sa (halfP (oS a % two d) d) (decide (N % 2 = 1)) = true then N + 1 else N) false := by
    unfold wholeP
    rw [if_neg hno, if_neg (by simp [IA, hs0]; omega), hd, show (-(-(d : Int))).toNat = d from by omega, if_neg hl0, ← p1, ← hsa]
    rfl
  have hE1 : wholeP 0 a = roundP 0 sa 0 (if (sa) = true then N + 1 else N) false := hE0
  obtain ⟨M, hM⟩ : ∃ x, N + 1 = x := ⟨_, rfl⟩
  have hMc : (N : Int) + 1 = (M : Int) := by omega
  have hM24 : M ≤ 16777216 := by omega
  cases sa
  · have HE : Hid (wholeP 0 a = rnd 0 false (two 149 * N) 1) := Lib.hid (by
      rw [hE1, if_neg (by decide)]
      exact whole_fin (by omega))
    clear hna hno hx hsa hex hbig hx0 hoE ob1 ob2 ob3 hs0 IA hnn hc hexa hlt0 hd p1 p2 p3 p4 hl0 hE0 hE1 hM
    go_enter Try.func70, Try.ntmps70
    have hB0 := Below.refl w.heap.size w
    have hz0 := hB0.size
    go_wp2_with fail
    refine (rnone_at h NA).mono ?_
    rintro e' w' ⟨rfl, rfl⟩
    go_wp2_with fail
    refine (rabs_at h HX).mono ?_
    rintro e' w' ⟨rfl, rfl⟩
    go_wp2_with fail
    refine (rbelow_at SA).mono ?_
    rintro e' w' ⟨rfl, rfl⟩
    go_wp2_with fail
    refine (rcut_any a _ h).mono ?_
    rintro e' w' ⟨-, hc, rfl⟩
    rw [hc (by have h1 := HXL.out; have h2 := HX.out; omega), HN.out]
    clear hc
    go_wp2_with fail
    refine (amount_nv x _ (by omega)).mono ?_
    rintro e' W1 ⟨A1, k1, c1, rfl, v1, hC⟩
    have hB1 := hB0.trans (hC.mono hz0)
    have hz1 := hB1.size
    clear hC hB0 hz0
    go_wp2_with fail
    refine (of_nv N _ (Lib.hid (by omega))).mono ?_
    rintro e' W2 ⟨A2, k2, c2, rfl, v2, hC⟩
    have hB2 := hB1.trans (hC.mono hz1)
    have hz2 := hB2.size
    have v1 := v1.below hC
    clear hC hB1 hz1
    go_wp2_with fail
    refine (twice_nv (k := 149) v2 (ten_thirty (big_24 (by omega))) (by omega) (Lib.hid rfl)).mono ?_
    rintro e' W3 ⟨A3, k3, c3, rfl, v3, hC⟩
    have hB3 := hB2.trans (hC.mono hz2)
    have hz3 := hB3.size
    have v1 := v1.below hC
    have v2 := v2.below hC
    clear hC hB2 hz2
    go_wp2_with fail
    refine (compare_nv v3 v1 (ten_thirty (big_149n (by omega))) (amt_big (by omega)) HC).mono ?_
    rintro e' w' ⟨rfl, nd3, rfl⟩
    have hB4 := below_drewN hB3 nd3
    have hz4 := hB4.size
    have v1 := v1.below (below_drewN (Below.refl _ _) nd3)
    have v2 := v2.below (below_drewN (Below.refl _ _) nd3)
    have v3 := v3.below (below_drewN (Below.refl _ _) nd3)
    clear hB3 hz3
    go_wp2_with fail
    refine (of_nv N _ (Lib.hid (by omega))).mono ?_
    rintro e' W5 ⟨A5, k5, c5, rfl, v4, hC⟩
    have hB5 := hB4.trans (hC.mono hz4)
    have hz5 := hB5.size
    have v1 := v1.below hC
    have v2 := v2.below hC
    have v3 := v3.below hC
    clear hC hB4 hz4
    go_wp2_with fail
    refine (twice_nv (k := 149) v4 (ten_thirty (big_24 (by omega))) (by omega) (Lib.hid rfl)).mono ?_
    rintro e' W6 ⟨A6, k6, c6, rfl, v5, hC⟩
    have hB6 := hB5.trans (hC.mono hz5)
    have hz6 := hB6.size
    have v1 := v1.below hC
    have v2 := v2.below hC
    have v3 := v3.below hC
    have v4 := v4.below hC
    clear hC hB5 hz5
    go_wp2_with fail
    refine (of_nv 1 _ (Lib.hid (by decide))).mono ?_
    rintro e' W7 ⟨A7, k7, c7, rfl, v6, hC⟩
    have hB7 := hB6.trans (hC.mono hz6)
    have hz7 := hB7.size
    have v1 := v1.below hC
    have v2 := v2.below hC
    have v3 := v3.below hC
    have v4 := v4.below hC
    have v5 := v5.below hC
    clear hC hB6 hz6
    go_wp2_with fail
    refine (rounded_any v5 v6 (Lib.hid (big_149n (by omega))) (Lib.hid big_1)).mono ?_
    rintro e' W8 ⟨rfl, hC⟩
    have hB8 := hB7.trans (hC.mono hz7)
    have hz8 := hB8.size
    clear hC hB7 hz7
    go_wp2
    go_ret
    exact ⟨by rw [HE.out]; try rfl, hB8⟩
  · have HE : Hid (wholeP 0 a = rnd 0 true (two 149 * M) 1) := Lib.hid (by
      rw [hE1, if_pos (by decide), hM]
      exact whole_fin (by omega))
    clear hna hno hx hsa hex hbig hx0 hoE ob1 ob2 ob3 hs0 IA hnn hc hexa hlt0 hd p1 p2 p3 p4 hl0 hE0 hE1 hM
    go_enter Try.func70, Try.ntmps70
    have hB0 := Below.refl w.heap.size w
    have hz0 := hB0.size
    go_wp2_with fail
    refine (rnone_at h NA).mono ?_
    rintro e' w' ⟨rfl, rfl⟩
    go_wp2_with fail
    refine (rabs_at h HX).mono ?_
    rintro e' w' ⟨rfl, rfl⟩
    go_wp2_with fail
    refine (rbelow_at SA).mono ?_
    rintro e' w' ⟨rfl, rfl⟩
    go_wp2_with fail
    refine (rcut_any a _ h).mono ?_
    rintro e' w' ⟨-, hc, rfl⟩
    rw [hc (by have h1 := HXL.out; have h2 := HX.out; omega), HN.out]
    clear hc
    go_wp2_with fail
    refine (amount_nv x _ (by omega)).mono ?_
    rintro e' W1 ⟨A1, k1, c1, rfl, v1, hC⟩
    have hB1 := hB0.trans (hC.mono hz0)
    have hz1 := hB1.size
    clear hC hB0 hz0
    go_wp2_with fail
    refine (of_nv N _ (Lib.hid (by omega))).mono ?_
    rintro e' W2 ⟨A2, k2, c2, rfl, v2, hC⟩
    have hB2 := hB1.trans (hC.mono hz1)
    have hz2 := hB2.size
    have v1 := v1.below hC
    clear hC hB1 hz1
    go_wp2_with fail
    refine (twice_nv (k := 149) v2 (ten_thirty (big_24 (by omega))) (by omega) (Lib.hid rfl)).mono ?_
    rintro e' W3 ⟨A3, k3, c3, rfl, v3, hC⟩
    have hB3 := hB2.trans (hC.mono hz2)
    have hz3 := hB3.size
    have v1 := v1.below hC
    have v2 := v2.below hC
    clear hC hB2 hz2
    go_wp2_with fail
    refine (compare_nv v3 v1 (ten_thirty (big_149n (by omega))) (amt_big (by omega)) HC).mono ?_
    rintro e' w' ⟨rfl, nd3, rfl⟩
    have hB4 := below_drewN hB3 nd3
    have hz4 := hB4.size
    have v1 := v1.below (below_drewN (Below.refl _ _) nd3)
    have v2 := v2.below (below_drewN (Below.refl _ _) nd3)
    have v3 := v3.below (below_drewN (Below.refl _ _) nd3)
    clear hB3 hz3
    go_wp2_with fail
    refine (of_nv M _ (Lib.hid (by omega))).mono ?_
    rintro e' W5 ⟨A5, k5, c5, rfl, v4, hC⟩
    have hB5 := hB4.trans (hC.mono hz4)
    have hz5 := hB5.size
    have v1 := v1.below hC
    have v2 := v2.below hC
    have v3 := v3.below hC
    clear hC hB4 hz4
    go_wp2_with fail
    refine (twice_nv (k := 149) v4 (ten_thirty (big_24 (by omega))) (by omega) (Lib.hid rfl)).mono ?_
    rintro e' W6 ⟨A6, k6, c6, rfl, v5, hC⟩
    have hB6 := hB5.trans (hC.mono hz5)
    have hz6 := hB6.size
    have v1 := v1.below hC
    have v2 := v2.below hC
    have v3 := v3.below hC
    have v4 := v4.below hC
    clear hC hB5 hz5
    go_wp2_with fail
    refine (of_nv 1 _ (Lib.hid (by decide))).mono ?_
    rintro e' W7 ⟨A7, k7, c7, rfl, v6, hC⟩
    have hB7 := hB6.trans (hC.mono hz6)
    have hz7 := hB7.size
    have v1 := v1.below hC
    have v2 := v2.below hC
    have v3 := v3.below hC
    have v4 := v4.below hC
    have v5 := v5.below hC
    clear hC hB6 hz6
    go_wp2_with fail
    refine (rounded_any v5 v6 (Lib.hid (big_149n (by omega))) (Lib.hid big_1)).mono ?_
    rintro e' W8 ⟨rfl, hC⟩
    have hB8 := hB7.trans (hC.mono hz7)
    have hz8 := hB8.size
    clear hC hB7 hz7
    go_wp2
    go_ret
    exact ⟨by rw [HE.out]; try rfl, hB8⟩
set_option maxRecDepth 100000 in
set_option maxHeartbeats 1600000 in
theorem rwhole1_any (a : Nat) (w : World) (h : Hid (a < 4294967296)) :
    Calls Try.prog 70 #[.int .i64 1, .int .u32 (a : Int)] w (BR w (wholeP 1 a)) := by
  obtain ⟨x, hx⟩ : ∃ x, absP a = x := ⟨_, rfl⟩
  obtain ⟨sa, hsa⟩ : ∃ s, decide (2147483648 ≤ a) = s := ⟨_, rfl⟩
  have HX := Lib.hid hx
  have SA := Lib.hid hsa
  cases hna : nanP a
  case true =>
    have NA := Lib.hid hna
    have HE : Hid (wholeP 1 a = 2143289344) := Lib.hid (by unfold wholeP; rw [if_pos hna])
    clear hna hx hsa
    go_enter Try.func70, Try.ntmps70
    have hB0 := Below.refl w.heap.size w
    have hz0 := hB0.size
    go_wp2_with fail
    refine (rnone_at h NA).mono ?_
    rintro e' w' ⟨rfl, rfl⟩
    go_wp2
    go_ret
    exact ⟨by rw [HE.out]; try rfl, hB0⟩
  have NA := Lib.hid hna
  have hno : ¬ nanP a = true := by rw [hna]; decide
  have hex : a / 8388608 % 256 = x / 8388608 := by rw [← hx]; unfold absP; omega
  by_cases hbig : 1266679808 ≤ x
  case pos =>
    have h0e : 0 ≤ oE a := by
      unfold oE
      rw [hex]
      split <;> omega
    have HE : Hid (wholeP 1 a = a) := Lib.hid (by
      unfold wholeP
      rw [if_neg hno, if_pos (.inr (.inl h0e))])
    have bb : decide ((1266679808 : Int) ≤ (x : Int)) = true := decide_eq_true (by omega)
    clear hna hno hx hsa hex hbig h0e
    go_enter Try.func70, Try.ntmps70
    have hB0 := Below.refl w.heap.size w
    have hz0 := hB0.size
    go_wp2_with fail
    refine (rnone_at h NA).mono ?_
    rintro e' w' ⟨rfl, rfl⟩
    go_wp2_with fail
    refine (rabs_at h HX).mono ?_
    rintro e' w' ⟨rfl, rfl⟩
    go_wp2
    go_ret
    exact ⟨by rw [HE.out]; try rfl, hB0⟩
  have bb : decide ((1266679808 : Int) ≤ (x : Int)) = false := decide_eq_false (by omega)
  by_cases hx0 : x = 0
  case pos =>
    have HE : Hid (wholeP 1 a = a) := Lib.hid (by unfold wholeP; rw [if_neg hno, if_pos (.inr (.inr (o_nil.2 (hx.trans hx0))))])
    have b0 : ((x : Int) == 0) = true := int_eq (y := 0) hx0
    clear hna hno hx hsa hex hbig hx0
    go_enter Try.func70, Try.ntmps70
    have hB0 := Below.refl w.heap.size w
    have hz0 := hB0.size
    go_wp2_with fail
    refine (rnone_at h NA).mono ?_
    rintro e' w' ⟨rfl, rfl⟩
    go_wp2_with fail
    refine (rabs_at h HX).mono ?_
    rintro e' w' ⟨rfl, rfl⟩
    go_wp2
    go_ret
    exact ⟨by rw [HE.out]; try rfl, hB0⟩
  have b0 : ((x : Int) == 0) = false := int_ne (y := 0) hx0
  have hoE : oE a ≤ 0 := by
    unfold oE
    rw [hex]
    split <;> omega
  obtain ⟨ob1, ob2, ob3⟩ := o_bounds a
  obtain ⟨N, hN⟩ : ∃ n, cutA a = n := ⟨_, rfl⟩
  have HN := Lib.hid hN
  have HXL : Hid (x < 1266679808) := Lib.hid (by omega)
  have hxl : x ≤ 2139095040 := by omega
  have hs0 : ¬ oS a = 0 := fun e => hx0 (hx.symm.trans (o_nil.1 e))
  have IA : ¬ infP a = true := fun e => by
    have := hx.symm.trans (inf_abs.1 e)
    omega
  have hnn : N ≤ oS a := by
    rw [← hN]
    unfold cutA
    by_cases he : 0 ≤ oE a
    · rw [if_pos he, show (oE a).toNat = 0 from by omega, show two 0 = 1 from rfl, Nat.mul_one]; exact Nat.le_refl _
    · rw [if_neg he]; exact Nat.div_le_self _ _
  have hN24 : N < 16777216 := by omega
  obtain ⟨c, hc⟩ : ∃ c, cmpV (two 149 * N) (amt x) = c := ⟨_, rfl⟩
  have HC := Lib.hid hc
  by_cases hexa : two 149 * N = amt x
  case pos =>
    have HE : Hid (wholeP 1 a = a) := Lib.hid (by
      unfold wholeP
      rw [if_neg hno]
      by_cases he : 0 ≤ oE a
      · rw [if_pos (.inr (.inl he))]
      · rw [if_neg (by simp [IA, hs0]; omega)]
        obtain ⟨d, hd⟩ : ∃ d : Nat, oE a = -(d : Int) := ⟨(-oE a).toNat, by omega⟩
        have hp := whole_parts hd (by omega) (by omega)
        rw [hN, hx] at hp
        rw [hd, show (-(-(d : Int))).toNat = d from by omega, if_pos (hp.2.1.1 hexa)])
    have hc0 : c = 0 := by rw [← hc]; exact cmpV_zero.2 hexa
    subst hc0
    clear hna hno hx hsa hex hbig hx0 hoE ob1 ob2 ob3 hs0 IA hnn hc hexa
    go_enter Try.func70, Try.ntmps70
    have hB0 := Below.refl w.heap.size w
    have hz0 := hB0.size
    go_wp2_with fail
    refine (rnone_at h NA).mono ?_
    rintro e' w' ⟨rfl, rfl⟩
    go_wp2_with fail
    refine (rabs_at h HX).mono ?_
    rintro e' w' ⟨rfl, rfl⟩
    go_wp2_with fail
    refine (rbelow_at SA).mono ?_
    rintro e' w' ⟨rfl, rfl⟩
    go_wp2_with fail
    refine (rcut_any a _ h).mono ?_
    rintro e' w' ⟨-, hc, rfl⟩
    rw [hc (by have h1 := HXL.out; have h2 := HX.out; omega), HN.out]
    clear hc
    go_wp2_with fail
    refine (amount_nv x _ (by omega)).mono ?_
    rintro e' W1 ⟨A1, k1, c1, rfl, v1, hC⟩
    have hB1 := hB0.trans (hC.mono hz0)
    have hz1 := hB1.size
    clear hC hB0 hz0
    go_wp2_with fail
    refine (of_nv N _ (Lib.hid (by omega))).mono ?_
    rintro e' W2 ⟨A2, k2, c2, rfl, v2, hC⟩
    have hB2 := hB1.trans (hC.mono hz1)
    have hz2 := hB2.size
    have v1 := v1.below hC
    clear hC hB1 hz1
    go_wp2_with fail
    refine (twice_nv (k := 149) v2 (ten_thirty (big_24 (by omega))) (by omega) (Lib.hid rfl)).mono ?_
    rintro e' W3 ⟨A3, k3, c3, rfl, v3, hC⟩
    have hB3 := hB2.trans (hC.mono hz2)
    have hz3 := hB3.size
    have v1 := v1.below hC
    have v2 := v2.below hC
    clear hC hB2 hz2
    go_wp2_with fail
    refine (compare_nv v3 v1 (ten_thirty (big_149n (by omega))) (amt_big (by omega)) HC).mono ?_
    rintro e' w' ⟨rfl, nd3, rfl⟩
    have hB4 := below_drewN hB3 nd3
    have hz4 := hB4.size
    have v1 := v1.below (below_drewN (Below.refl _ _) nd3)
    have v2 := v2.below (below_drewN (Below.refl _ _) nd3)
    have v3 := v3.below (below_drewN (Below.refl _ _) nd3)
    clear hB3 hz3
    go_wp2
    go_ret
    exact ⟨by rw [HE.out]; try rfl, hB4⟩
  have bc : (c == 0) = false := by rw [beq_eq_false_iff_ne, ← hc]; exact fun e => hexa (cmpV_zero.1 e)
  have hlt0 : oE a < 0 := by
    rcases Int.lt_or_eq_of_le hoE with h | h
    · exact h
    · have := whole_zero h
      rw [hN, hx] at this
      exact absurd this hexa
  obtain ⟨d, hd⟩ : ∃ d : Nat, oE a = -(d : Int) := ⟨(-oE a).toNat, by omega⟩
  obtain ⟨p1, p2, p3, p4⟩ := whole_parts hd (by omega) (by omega)
  rw [hN, hx] at p2 p3 p4
  rw [hN] at p1
  have hl0 : ¬ oS a % two d = 0 := fun e => hexa (p2.2 e)
  have hE0 : wholeP 1 a = roundP 0 sa 0 (if upP 1 sa (halfP (oS a % two d) d) (decide (N % 2 = 1)) = true then N + 1 else N) false := by
    unfold wholeP
    rw [if_neg hno, if_neg (by simp [IA, hs0]; omega), hd, show (-(-(d : Int))).toNat = d from by omega, if_neg hl0, ← p1, ← hsa]
    rfl
  have hE1 : wholeP 1 a = roundP 0 sa 0 (if (!sa) = true then N + 1 else N) false := hE0
  obtain ⟨M, hM⟩ : ∃ x, N + 1 = x := ⟨_, rfl⟩
  have hMc : (N : Int) + 1 = (M : Int) := by omega
  have hM24 : M ≤ 16777216 := by omega
  cases sa
  · have HE : Hid (wholeP 1 a = rnd 0 false (two 149 * M) 1) := Lib.hid (by
      rw [hE1, if_pos (by decide), hM]
      exact whole_fin (by omega))
    clear hna hno hx hsa hex hbig hx0 hoE ob1 ob2 ob3 hs0 IA hnn hc hexa hlt0 hd p1 p2 p3 p4 hl0 hE0 hE1 hM
    go_enter Try.func70, Try.ntmps70
    have hB0 := Below.refl w.heap.size w
    have hz0 := hB0.size
    go_wp2_with fail
    refine (rnone_at h NA).mono ?_
    rintro e' w' ⟨rfl, rfl⟩
    go_wp2_with fail
    refine (rabs_at h HX).mono ?_
    rintro e' w' ⟨rfl, rfl⟩
    go_wp2_with fail
    refine (rbelow_at SA).mono ?_
    rintro e' w' ⟨rfl, rfl⟩
    go_wp2_with fail
    refine (rcut_any a _ h).mono ?_
    rintro e' w' ⟨-, hc, rfl⟩
    rw [hc (by have h1 := HXL.out; have h2 := HX.out; omega), HN.out]
    clear hc
    go_wp2_with fail
    refine (amount_nv x _ (by omega)).mono ?_
    rintro e' W1 ⟨A1, k1, c1, rfl, v1, hC⟩
    have hB1 := hB0.trans (hC.mono hz0)
    have hz1 := hB1.size
    clear hC hB0 hz0
    go_wp2_with fail
    refine (of_nv N _ (Lib.hid (by omega))).mono ?_
    rintro e' W2 ⟨A2, k2, c2, rfl, v2, hC⟩
    have hB2 := hB1.trans (hC.mono hz1)
    have hz2 := hB2.size
    have v1 := v1.below hC
    clear hC hB1 hz1
    go_wp2_with fail
    refine (twice_nv (k := 149) v2 (ten_thirty (big_24 (by omega))) (by omega) (Lib.hid rfl)).mono ?_
    rintro e' W3 ⟨A3, k3, c3, rfl, v3, hC⟩
    have hB3 := hB2.trans (hC.mono hz2)
    have hz3 := hB3.size
    have v1 := v1.below hC
    have v2 := v2.below hC
    clear hC hB2 hz2
    go_wp2_with fail
    refine (compare_nv v3 v1 (ten_thirty (big_149n (by omega))) (amt_big (by omega)) HC).mono ?_
    rintro e' w' ⟨rfl, nd3, rfl⟩
    have hB4 := below_drewN hB3 nd3
    have hz4 := hB4.size
    have v1 := v1.below (below_drewN (Below.refl _ _) nd3)
    have v2 := v2.below (below_drewN (Below.refl _ _) nd3)
    have v3 := v3.below (below_drewN (Below.refl _ _) nd3)
    clear hB3 hz3
    go_wp2_with fail
    refine (of_nv M _ (Lib.hid (by omega))).mono ?_
    rintro e' W5 ⟨A5, k5, c5, rfl, v4, hC⟩
    have hB5 := hB4.trans (hC.mono hz4)
    have hz5 := hB5.size
    have v1 := v1.below hC
    have v2 := v2.below hC
    have v3 := v3.below hC
    clear hC hB4 hz4
    go_wp2_with fail
    refine (twice_nv (k := 149) v4 (ten_thirty (big_24 (by omega))) (by omega) (Lib.hid rfl)).mono ?_
    rintro e' W6 ⟨A6, k6, c6, rfl, v5, hC⟩
    have hB6 := hB5.trans (hC.mono hz5)
    have hz6 := hB6.size
    have v1 := v1.below hC
    have v2 := v2.below hC
    have v3 := v3.below hC
    have v4 := v4.below hC
    clear hC hB5 hz5
    go_wp2_with fail
    refine (of_nv 1 _ (Lib.hid (by decide))).mono ?_
    rintro e' W7 ⟨A7, k7, c7, rfl, v6, hC⟩
    have hB7 := hB6.trans (hC.mono hz6)
    have hz7 := hB7.size
    have v1 := v1.below hC
    have v2 := v2.below hC
    have v3 := v3.below hC
    have v4 := v4.below hC
    have v5 := v5.below hC
    clear hC hB6 hz6
    go_wp2_with fail
    refine (rounded_any v5 v6 (Lib.hid (big_149n (by omega))) (Lib.hid big_1)).mono ?_
    rintro e' W8 ⟨rfl, hC⟩
    have hB8 := hB7.trans (hC.mono hz7)
    have hz8 := hB8.size
    clear hC hB7 hz7
    go_wp2
    go_ret
    exact ⟨by rw [HE.out]; try rfl, hB8⟩
  · have HE : Hid (wholeP 1 a = rnd 0 true (two 149 * N) 1) := Lib.hid (by
      rw [hE1, if_neg (by decide)]
      exact whole_fin (by omega))
    clear hna hno hx hsa hex hbig hx0 hoE ob1 ob2 ob3 hs0 IA hnn hc hexa hlt0 hd p1 p2 p3 p4 hl0 hE0 hE1 hM
    go_enter Try.func70, Try.ntmps70
    have hB0 := Below.refl w.heap.size w
    have hz0 := hB0.size
    go_wp2_with fail
    refine (rnone_at h NA).mono ?_
    rintro e' w' ⟨rfl, rfl⟩
    go_wp2_with fail
    refine (rabs_at h HX).mono ?_
    rintro e' w' ⟨rfl, rfl⟩
    go_wp2_with fail
    refine (rbelow_at SA).mono ?_
    rintro e' w' ⟨rfl, rfl⟩
    go_wp2_with fail
    refine (rcut_any a _ h).mono ?_
    rintro e' w' ⟨-, hc, rfl⟩
    rw [hc (by have h1 := HXL.out; have h2 := HX.out; omega), HN.out]
    clear hc
    go_wp2_with fail
    refine (amount_nv x _ (by omega)).mono ?_
    rintro e' W1 ⟨A1, k1, c1, rfl, v1, hC⟩
    have hB1 := hB0.trans (hC.mono hz0)
    have hz1 := hB1.size
    clear hC hB0 hz0
    go_wp2_with fail
    refine (of_nv N _ (Lib.hid (by omega))).mono ?_
    rintro e' W2 ⟨A2, k2, c2, rfl, v2, hC⟩
    have hB2 := hB1.trans (hC.mono hz1)
    have hz2 := hB2.size
    have v1 := v1.below hC
    clear hC hB1 hz1
    go_wp2_with fail
    refine (twice_nv (k := 149) v2 (ten_thirty (big_24 (by omega))) (by omega) (Lib.hid rfl)).mono ?_
    rintro e' W3 ⟨A3, k3, c3, rfl, v3, hC⟩
    have hB3 := hB2.trans (hC.mono hz2)
    have hz3 := hB3.size
    have v1 := v1.below hC
    have v2 := v2.below hC
    clear hC hB2 hz2
    go_wp2_with fail
    refine (compare_nv v3 v1 (ten_thirty (big_149n (by omega))) (amt_big (by omega)) HC).mono ?_
    rintro e' w' ⟨rfl, nd3, rfl⟩
    have hB4 := below_drewN hB3 nd3
    have hz4 := hB4.size
    have v1 := v1.below (below_drewN (Below.refl _ _) nd3)
    have v2 := v2.below (below_drewN (Below.refl _ _) nd3)
    have v3 := v3.below (below_drewN (Below.refl _ _) nd3)
    clear hB3 hz3
    go_wp2_with fail
    refine (of_nv N _ (Lib.hid (by omega))).mono ?_
    rintro e' W5 ⟨A5, k5, c5, rfl, v4, hC⟩
    have hB5 := hB4.trans (hC.mono hz4)
    have hz5 := hB5.size
    have v1 := v1.below hC
    have v2 := v2.below hC
    have v3 := v3.below hC
    clear hC hB4 hz4
    go_wp2_with fail
    refine (twice_nv (k := 149) v4 (ten_thirty (big_24 (by omega))) (by omega) (Lib.hid rfl)).mono ?_
    rintro e' W6 ⟨A6, k6, c6, rfl, v5, hC⟩
    have hB6 := hB5.trans (hC.mono hz5)
    have hz6 := hB6.size
    have v1 := v1.below hC
    have v2 := v2.below hC
    have v3 := v3.below hC
    have v4 := v4.below hC
    clear hC hB5 hz5
    go_wp2_with fail
    refine (of_nv 1 _ (Lib.hid (by decide))).mono ?_
    rintro e' W7 ⟨A7, k7, c7, rfl, v6, hC⟩
    have hB7 := hB6.trans (hC.mono hz6)
    have hz7 := hB7.size
    have v1 := v1.below hC
    have v2 := v2.below hC
    have v3 := v3.below hC
    have v4 := v4.below hC
    have v5 := v5.below hC
    clear hC hB6 hz6
    go_wp2_with fail
    refine (rounded_any v5 v6 (Lib.hid (big_149n (by omega))) (Lib.hid big_1)).mono ?_
    rintro e' W8 ⟨rfl, hC⟩
    have hB8 := hB7.trans (hC.mono hz7)
    have hz8 := hB8.size
    clear hC hB7 hz7
    go_wp2
    go_ret
    exact ⟨by rw [HE.out]; try rfl, hB8⟩
set_option maxRecDepth 100000 in
set_option maxHeartbeats 1600000 in
theorem rwhole2_any (a : Nat) (w : World) (h : Hid (a < 4294967296)) :
    Calls Try.prog 70 #[.int .i64 2, .int .u32 (a : Int)] w (BR w (wholeP 2 a)) := by
  obtain ⟨x, hx⟩ : ∃ x, absP a = x := ⟨_, rfl⟩
  obtain ⟨sa, hsa⟩ : ∃ s, decide (2147483648 ≤ a) = s := ⟨_, rfl⟩
  have HX := Lib.hid hx
  have SA := Lib.hid hsa
  cases hna : nanP a
  case true =>
    have NA := Lib.hid hna
    have HE : Hid (wholeP 2 a = 2143289344) := Lib.hid (by unfold wholeP; rw [if_pos hna])
    clear hna hx hsa
    go_enter Try.func70, Try.ntmps70
    have hB0 := Below.refl w.heap.size w
    have hz0 := hB0.size
    go_wp2_with fail
    refine (rnone_at h NA).mono ?_
    rintro e' w' ⟨rfl, rfl⟩
    go_wp2
    go_ret
    exact ⟨by rw [HE.out]; try rfl, hB0⟩
  have NA := Lib.hid hna
  have hno : ¬ nanP a = true := by rw [hna]; decide
  have hex : a / 8388608 % 256 = x / 8388608 := by rw [← hx]; unfold absP; omega
  by_cases hbig : 1266679808 ≤ x
  case pos =>
    have h0e : 0 ≤ oE a := by
      unfold oE
      rw [hex]
      split <;> omega
    have HE : Hid (wholeP 2 a = a) := Lib.hid (by
      unfold wholeP
      rw [if_neg hno, if_pos (.inr (.inl h0e))])
    have bb : decide ((1266679808 : Int) ≤ (x : Int)) = true := decide_eq_true (by omega)
    clear hna hno hx hsa hex hbig h0e
    go_enter Try.func70, Try.ntmps70
    have hB0 := Below.refl w.heap.size w
    have hz0 := hB0.size
    go_wp2_with fail
    refine (rnone_at h NA).mono ?_
    rintro e' w' ⟨rfl, rfl⟩
    go_wp2_with fail
    refine (rabs_at h HX).mono ?_
    rintro e' w' ⟨rfl, rfl⟩
    go_wp2
    go_ret
    exact ⟨by rw [HE.out]; try rfl, hB0⟩
  have bb : decide ((1266679808 : Int) ≤ (x : Int)) = false := decide_eq_false (by omega)
  by_cases hx0 : x = 0
  case pos =>
    have HE : Hid (wholeP 2 a = a) := Lib.hid (by unfold wholeP; rw [if_neg hno, if_pos (.inr (.inr (o_nil.2 (hx.trans hx0))))])
    have b0 : ((x : Int) == 0) = true := int_eq (y := 0) hx0
    clear hna hno hx hsa hex hbig hx0
    go_enter Try.func70, Try.ntmps70
    have hB0 := Below.refl w.heap.size w
    have hz0 := hB0.size
    go_wp2_with fail
    refine (rnone_at h NA).mono ?_
    rintro e' w' ⟨rfl, rfl⟩
    go_wp2_with fail
    refine (rabs_at h HX).mono ?_
    rintro e' w' ⟨rfl, rfl⟩
    go_wp2
    go_ret
    exact ⟨by rw [HE.out]; try rfl, hB0⟩
  have b0 : ((x : Int) == 0) = false := int_ne (y := 0) hx0
  have hoE : oE a ≤ 0 := by
    unfold oE
    rw [hex]
    split <;> omega
  obtain ⟨ob1, ob2, ob3⟩ := o_bounds a
  obtain ⟨N, hN⟩ : ∃ n, cutA a = n := ⟨_, rfl⟩
  have HN := Lib.hid hN
  have HXL : Hid (x < 1266679808) := Lib.hid (by omega)
  have hxl : x ≤ 2139095040 := by omega
  have hs0 : ¬ oS a = 0 := fun e => hx0 (hx.symm.trans (o_nil.1 e))
  have IA : ¬ infP a = true := fun e => by
    have := hx.symm.trans (inf_abs.1 e)
    omega
  have hnn : N ≤ oS a := by
    rw [← hN]
    unfold cutA
    by_cases he : 0 ≤ oE a
    · rw [if_pos he, show (oE a).toNat = 0 from by omega, show two 0 = 1 from rfl, Nat.mul_one]; exact Nat.le_refl _
    · rw [if_neg he]; exact Nat.div_le_self _ _
  have hN24 : N < 16777216 := by omega
  obtain ⟨c, hc⟩ : ∃ c, cmpV (two 149 * N) (amt x) = c := ⟨_, rfl⟩
  have HC := Lib.hid hc
  by_cases hexa : two 149 * N = amt x
  case pos =>
    have HE : Hid (wholeP 2 a = a) := Lib.hid (by
      unfold wholeP
      rw [if_neg hno]
      by_cases he : 0 ≤ oE a
      · rw [if_pos (.inr (.inl he))]
      · rw [if_neg (by simp [IA, hs0]; omega)]
        obtain ⟨d, hd⟩ : ∃ d : Nat, oE a = -(d : Int) := ⟨(-oE a).toNat, by omega⟩
        have hp := whole_parts hd (by omega) (by omega)
        rw [hN, hx] at hp
        rw [hd, show (-(-(d : Int))).toNat = d from by omega, if_pos (hp.2.1.1 hexa)])
    have hc0 : c = 0 := by rw [← hc]; exact cmpV_zero.2 hexa
    subst hc0
    clear hna hno hx hsa hex hbig hx0 hoE ob1 ob2 ob3 hs0 IA hnn hc hexa
    go_enter Try.func70, Try.ntmps70
    have hB0 := Below.refl w.heap.size w
    have hz0 := hB0.size
    go_wp2_with fail
    refine (rnone_at h NA).mono ?_
    rintro e' w' ⟨rfl, rfl⟩
    go_wp2_with fail
    refine (rabs_at h HX).mono ?_
    rintro e' w' ⟨rfl, rfl⟩
    go_wp2_with fail
    refine (rbelow_at SA).mono ?_
    rintro e' w' ⟨rfl, rfl⟩
    go_wp2_with fail
    refine (rcut_any a _ h).mono ?_
    rintro e' w' ⟨-, hc, rfl⟩
    rw [hc (by have h1 := HXL.out; have h2 := HX.out; omega), HN.out]
    clear hc
    go_wp2_with fail
    refine (amount_nv x _ (by omega)).mono ?_
    rintro e' W1 ⟨A1, k1, c1, rfl, v1, hC⟩
    have hB1 := hB0.trans (hC.mono hz0)
    have hz1 := hB1.size
    clear hC hB0 hz0
    go_wp2_with fail
    refine (of_nv N _ (Lib.hid (by omega))).mono ?_
    rintro e' W2 ⟨A2, k2, c2, rfl, v2, hC⟩
    have hB2 := hB1.trans (hC.mono hz1)
    have hz2 := hB2.size
    have v1 := v1.below hC
    clear hC hB1 hz1
    go_wp2_with fail
    refine (twice_nv (k := 149) v2 (ten_thirty (big_24 (by omega))) (by omega) (Lib.hid rfl)).mono ?_
    rintro e' W3 ⟨A3, k3, c3, rfl, v3, hC⟩
    have hB3 := hB2.trans (hC.mono hz2)
    have hz3 := hB3.size
    have v1 := v1.below hC
    have v2 := v2.below hC
    clear hC hB2 hz2
    go_wp2_with fail
    refine (compare_nv v3 v1 (ten_thirty (big_149n (by omega))) (amt_big (by omega)) HC).mono ?_
    rintro e' w' ⟨rfl, nd3, rfl⟩
    have hB4 := below_drewN hB3 nd3
    have hz4 := hB4.size
    have v1 := v1.below (below_drewN (Below.refl _ _) nd3)
    have v2 := v2.below (below_drewN (Below.refl _ _) nd3)
    have v3 := v3.below (below_drewN (Below.refl _ _) nd3)
    clear hB3 hz3
    go_wp2
    go_ret
    exact ⟨by rw [HE.out]; try rfl, hB4⟩
  have bc : (c == 0) = false := by rw [beq_eq_false_iff_ne, ← hc]; exact fun e => hexa (cmpV_zero.1 e)
  have hlt0 : oE a < 0 := by
    rcases Int.lt_or_eq_of_le hoE with h | h
    · exact h
    · have := whole_zero h
      rw [hN, hx] at this
      exact absurd this hexa
  obtain ⟨d, hd⟩ : ∃ d : Nat, oE a = -(d : Int) := ⟨(-oE a).toNat, by omega⟩
  obtain ⟨p1, p2, p3, p4⟩ := whole_parts hd (by omega) (by omega)
  rw [hN, hx] at p2 p3 p4
  rw [hN] at p1
  have hl0 : ¬ oS a % two d = 0 := fun e => hexa (p2.2 e)
  have hE0 : wholeP 2 a = roundP 0 sa 0 (if upP 2 sa (halfP (oS a % two d) d) (decide (N % 2 = 1)) = true then N + 1 else N) false := by
    unfold wholeP
    rw [if_neg hno, if_neg (by simp [IA, hs0]; omega), hd, show (-(-(d : Int))).toNat = d from by omega, if_neg hl0, ← p1, ← hsa]
    rfl
  obtain ⟨v, hv⟩ : ∃ v, cmpV (two 1 * amt x) (two 149 * (2 * N + 1)) = v := ⟨_, rfl⟩
  have HV := Lib.hid hv
  obtain ⟨K, hK⟩ : ∃ K, 2 * N + 1 = K := ⟨_, rfl⟩
  rw [hK] at HV
  have hKc : 2 * (N : Int) + 1 = (K : Int) := by omega
  have hK24 : K ≤ 33554432 := by omega
  obtain ⟨M, hM⟩ : ∃ x, N + 1 = x := ⟨_, rfl⟩
  have hMc : (N : Int) + 1 = (M : Int) := by omega
  have hM24 : M ≤ 16777216 := by omega
  have hE1 : wholeP 2 a = roundP 0 sa 0 (if (decide (0 < v) || (decide (v = 0) && decide (N % 2 = 1))) = true then M else N) false := by
    rw [hE0, half_cmp p3 p4 hv, hM]
  by_cases v1c : 0 < v
  · have HE : Hid (wholeP 2 a = rnd 0 sa (two 149 * M) 1) := Lib.hid (by
      rw [hE1, if_pos (by simp [v1c])]
      exact whole_fin (by omega))
    clear hna hno hx hsa hex hbig hx0 hoE ob1 ob2 ob3 hs0 IA hnn hc hexa hlt0 hd p1 p2 p3 p4 hl0 hE0 hE1 hM hK hv
    go_enter Try.func70, Try.ntmps70
    have hB0 := Below.refl w.heap.size w
    have hz0 := hB0.size
    go_wp2_with fail
    refine (rnone_at h NA).mono ?_
    rintro e' w' ⟨rfl, rfl⟩
    go_wp2_with fail
    refine (rabs_at h HX).mono ?_
    rintro e' w' ⟨rfl, rfl⟩
    go_wp2_with fail
    refine (rbelow_at SA).mono ?_
    rintro e' w' ⟨rfl, rfl⟩
    go_wp2_with fail
    refine (rcut_any a _ h).mono ?_
    rintro e' w' ⟨-, hc, rfl⟩
    rw [hc (by have h1 := HXL.out; have h2 := HX.out; omega), HN.out]
    clear hc
    go_wp2_with fail
    refine (amount_nv x _ (by omega)).mono ?_
    rintro e' W1 ⟨A1, k1, c1, rfl, v1, hC⟩
    have hB1 := hB0.trans (hC.mono hz0)
    have hz1 := hB1.size
    clear hC hB0 hz0
    go_wp2_with fail
    refine (of_nv N _ (Lib.hid (by omega))).mono ?_
    rintro e' W2 ⟨A2, k2, c2, rfl, v2, hC⟩
    have hB2 := hB1.trans (hC.mono hz1)
    have hz2 := hB2.size
    have v1 := v1.below hC
    clear hC hB1 hz1
    go_wp2_with fail
    refine (twice_nv (k := 149) v2 (ten_thirty (big_24 (by omega))) (by omega) (Lib.hid rfl)).mono ?_
    rintro e' W3 ⟨A3, k3, c3, rfl, v3, hC⟩
    have hB3 := hB2.trans (hC.mono hz2)
    have hz3 := hB3.size
    have v1 := v1.below hC
    have v2 := v2.below hC
    clear hC hB2 hz2
    go_wp2_with fail
    refine (compare_nv v3 v1 (ten_thirty (big_149n (by omega))) (amt_big (by omega)) HC).mono ?_
    rintro e' w' ⟨rfl, nd3, rfl⟩
    have hB4 := below_drewN hB3 nd3
    have hz4 := hB4.size
    have v1 := v1.below (below_drewN (Below.refl _ _) nd3)
    have v2 := v2.below (below_drewN (Below.refl _ _) nd3)
    have v3 := v3.below (below_drewN (Below.refl _ _) nd3)
    clear hB3 hz3
    go_wp2_with fail
    refine (twice_nv (k := 1) v1 (amt_big (by omega)) (by omega) (Lib.hid rfl)).mono ?_
    rintro e' W5 ⟨A5, k5, c5, rfl, u1, hC⟩
    have hB5 := hB4.trans (hC.mono hz4)
    have hz5 := hB5.size
    have v1 := v1.below hC
    have v2 := v2.below hC
    have v3 := v3.below hC
    clear hC hB4 hz4
    go_wp2_with fail
    refine (of_nv K _ (Lib.hid (by omega))).mono ?_
    rintro e' W6 ⟨A6, k6, c6, rfl, u2, hC⟩
    have hB6 := hB5.trans (hC.mono hz5)
    have hz6 := hB6.size
    have v1 := v1.below hC
    have v2 := v2.below hC
    have v3 := v3.below hC
    have u1 := u1.below hC
    clear hC hB5 hz5
    go_wp2_with fail
    refine (twice_nv (k := 149) u2 (ten_thirty (big_24 (by omega))) (by omega) (Lib.hid rfl)).mono ?_
    rintro e' W7 ⟨A7, k7, c7, rfl, u3, hC⟩
    have hB7 := hB6.trans (hC.mono hz6)
    have hz7 := hB7.size
    have v1 := v1.below hC
    have v2 := v2.below hC
    have v3 := v3.below hC
    have u1 := u1.below hC
    have u2 := u2.below hC
    clear hC hB6 hz6
    go_wp2_with fail
    refine (compare_nv u1 u3 (two_p (amt_ten (by omega))) (ten_thirty (big_149n (by omega))) HV).mono ?_
    rintro e' w' ⟨rfl, nd7, rfl⟩
    have hB8 := below_drewN hB7 nd7
    have hz8 := hB8.size
    have v1 := v1.below (below_drewN (Below.refl _ _) nd7)
    have v2 := v2.below (below_drewN (Below.refl _ _) nd7)
    have v3 := v3.below (below_drewN (Below.refl _ _) nd7)
    have u1 := u1.below (below_drewN (Below.refl _ _) nd7)
    have u2 := u2.below (below_drewN (Below.refl _ _) nd7)
    have u3 := u3.below (below_drewN (Below.refl _ _) nd7)
    clear hB7 hz7
    go_wp2_with fail
    refine (of_nv M _ (Lib.hid (by omega))).mono ?_
    rintro e' W9 ⟨A9, k9, c9, rfl, v4, hC⟩
    have hB9 := hB8.trans (hC.mono hz8)
    have hz9 := hB9.size
    have v1 := v1.below hC
    have v2 := v2.below hC
    have v3 := v3.below hC
    have u1 := u1.below hC
    have u2 := u2.below hC
    have u3 := u3.below hC
    clear hC hB8 hz8
    go_wp2_with fail
    refine (twice_nv (k := 149) v4 (ten_thirty (big_24 (by omega))) (by omega) (Lib.hid rfl)).mono ?_
    rintro e' W10 ⟨A10, k10, c10, rfl, v5, hC⟩
    have hB10 := hB9.trans (hC.mono hz9)
    have hz10 := hB10.size
    have v1 := v1.below hC
    have v2 := v2.below hC
    have v3 := v3.below hC
    have u1 := u1.below hC
    have u2 := u2.below hC
    have u3 := u3.below hC
    have v4 := v4.below hC
    clear hC hB9 hz9
    go_wp2_with fail
    refine (of_nv 1 _ (Lib.hid (by decide))).mono ?_
    rintro e' W11 ⟨A11, k11, c11, rfl, v6, hC⟩
    have hB11 := hB10.trans (hC.mono hz10)
    have hz11 := hB11.size
    have v1 := v1.below hC
    have v2 := v2.below hC
    have v3 := v3.below hC
    have u1 := u1.below hC
    have u2 := u2.below hC
    have u3 := u3.below hC
    have v4 := v4.below hC
    have v5 := v5.below hC
    clear hC hB10 hz10
    go_wp2_with fail
    refine (rounded_any v5 v6 (Lib.hid (big_149n (by omega))) (Lib.hid big_1)).mono ?_
    rintro e' W12 ⟨rfl, hC⟩
    have hB12 := hB11.trans (hC.mono hz11)
    have hz12 := hB12.size
    clear hC hB11 hz11
    go_wp2
    go_ret
    exact ⟨by rw [HE.out]; try rfl, hB12⟩
  by_cases v0c : v = 0
  · by_cases hpar : N % 2 = 1
    · have hpar2 : ((N : Int) % 2 == 1) = true := by rw [beq_iff_eq]; omega
      have HE : Hid (wholeP 2 a = rnd 0 sa (two 149 * M) 1) := Lib.hid (by
        rw [hE1, if_pos (by simp [v0c, hpar])]
        exact whole_fin (by omega))
      subst v0c
      clear hpar v1c
      clear hna hno hx hsa hex hbig hx0 hoE ob1 ob2 ob3 hs0 IA hnn hc hexa hlt0 hd p1 p2 p3 p4 hl0 hE0 hE1 hM hK hv
      go_enter Try.func70, Try.ntmps70
      have hB0 := Below.refl w.heap.size w
      have hz0 := hB0.size
      go_wp2_with fail
      refine (rnone_at h NA).mono ?_
      rintro e' w' ⟨rfl, rfl⟩
      go_wp2_with fail
      refine (rabs_at h HX).mono ?_
      rintro e' w' ⟨rfl, rfl⟩
      go_wp2_with fail
      refine (rbelow_at SA).mono ?_
      rintro e' w' ⟨rfl, rfl⟩
      go_wp2_with fail
      refine (rcut_any a _ h).mono ?_
      rintro e' w' ⟨-, hc, rfl⟩
      rw [hc (by have h1 := HXL.out; have h2 := HX.out; omega), HN.out]
      clear hc
      go_wp2_with fail
      refine (amount_nv x _ (by omega)).mono ?_
      rintro e' W1 ⟨A1, k1, c1, rfl, v1, hC⟩
      have hB1 := hB0.trans (hC.mono hz0)
      have hz1 := hB1.size
      clear hC hB0 hz0
      go_wp2_with fail
      refine (of_nv N _ (Lib.hid (by omega))).mono ?_
      rintro e' W2 ⟨A2, k2, c2, rfl, v2, hC⟩
      have hB2 := hB1.trans (hC.mono hz1)
      have hz2 := hB2.size
      have v1 := v1.below hC
      clear hC hB1 hz1
      go_wp2_with fail
      refine (twice_nv (k := 149) v2 (ten_thirty (big_24 (by omega))) (by omega) (Lib.hid rfl)).mono ?_
      rintro e' W3 ⟨A3, k3, c3, rfl, v3, hC⟩
      have hB3 := hB2.trans (hC.mono hz2)
      have hz3 := hB3.size
      have v1 := v1.below hC
      have v2 := v2.below hC
      clear hC hB2 hz2
      go_wp2_with fail
      refine (compare_nv v3 v1 (ten_thirty (big_149n (by omega))) (amt_big (by omega)) HC).mono ?_
      rintro e' w' ⟨rfl, nd3, rfl⟩
      have hB4 := below_drewN hB3 nd3
      have hz4 := hB4.size
      have v1 := v1.below (below_drewN (Below.refl _ _) nd3)
      have v2 := v2.below (below_drewN (Below.refl _ _) nd3)
      have v3 := v3.below (below_drewN (Below.refl _ _) nd3)
      clear hB3 hz3
      go_wp2_with fail
      refine (twice_nv (k := 1) v1 (amt_big (by omega)) (by omega) (Lib.hid rfl)).mono ?_
      rintro e' W5 ⟨A5, k5, c5, rfl, u1, hC⟩
      have hB5 := hB4.trans (hC.mono hz4)
      have hz5 := hB5.size
      have v1 := v1.below hC
      have v2 := v2.below hC
      have v3 := v3.below hC
      clear hC hB4 hz4
      go_wp2_with fail
      refine (of_nv K _ (Lib.hid (by omega))).mono ?_
      rintro e' W6 ⟨A6, k6, c6, rfl, u2, hC⟩
      have hB6 := hB5.trans (hC.mono hz5)
      have hz6 := hB6.size
      have v1 := v1.below hC
      have v2 := v2.below hC
      have v3 := v3.below hC
      have u1 := u1.below hC
      clear hC hB5 hz5
      go_wp2_with fail
      refine (twice_nv (k := 149) u2 (ten_thirty (big_24 (by omega))) (by omega) (Lib.hid rfl)).mono ?_
      rintro e' W7 ⟨A7, k7, c7, rfl, u3, hC⟩
      have hB7 := hB6.trans (hC.mono hz6)
      have hz7 := hB7.size
      have v1 := v1.below hC
      have v2 := v2.below hC
      have v3 := v3.below hC
      have u1 := u1.below hC
      have u2 := u2.below hC
      clear hC hB6 hz6
      go_wp2_with fail
      refine (compare_nv u1 u3 (two_p (amt_ten (by omega))) (ten_thirty (big_149n (by omega))) HV).mono ?_
      rintro e' w' ⟨rfl, nd7, rfl⟩
      have hB8 := below_drewN hB7 nd7
      have hz8 := hB8.size
      have v1 := v1.below (below_drewN (Below.refl _ _) nd7)
      have v2 := v2.below (below_drewN (Below.refl _ _) nd7)
      have v3 := v3.below (below_drewN (Below.refl _ _) nd7)
      have u1 := u1.below (below_drewN (Below.refl _ _) nd7)
      have u2 := u2.below (below_drewN (Below.refl _ _) nd7)
      have u3 := u3.below (below_drewN (Below.refl _ _) nd7)
      clear hB7 hz7
      go_wp2_with fail
      refine (of_nv M _ (Lib.hid (by omega))).mono ?_
      rintro e' W9 ⟨A9, k9, c9, rfl, v4, hC⟩
      have hB9 := hB8.trans (hC.mono hz8)
      have hz9 := hB9.size
      have v1 := v1.below hC
      have v2 := v2.below hC
      have v3 := v3.below hC
      have u1 := u1.below hC
      have u2 := u2.below hC
      have u3 := u3.below hC
      clear hC hB8 hz8
      go_wp2_with fail
      refine (twice_nv (k := 149) v4 (ten_thirty (big_24 (by omega))) (by omega) (Lib.hid rfl)).mono ?_
      rintro e' W10 ⟨A10, k10, c10, rfl, v5, hC⟩
      have hB10 := hB9.trans (hC.mono hz9)
      have hz10 := hB10.size
      have v1 := v1.below hC
      have v2 := v2.below hC
      have v3 := v3.below hC
      have u1 := u1.below hC
      have u2 := u2.below hC
      have u3 := u3.below hC
      have v4 := v4.below hC
      clear hC hB9 hz9
      go_wp2_with fail
      refine (of_nv 1 _ (Lib.hid (by decide))).mono ?_
      rintro e' W11 ⟨A11, k11, c11, rfl, v6, hC⟩
      have hB11 := hB10.trans (hC.mono hz10)
      have hz11 := hB11.size
      have v1 := v1.below hC
      have v2 := v2.below hC
      have v3 := v3.below hC
      have u1 := u1.below hC
      have u2 := u2.below hC
      have u3 := u3.below hC
      have v4 := v4.below hC
      have v5 := v5.below hC
      clear hC hB10 hz10
      go_wp2_with fail
      refine (rounded_any v5 v6 (Lib.hid (big_149n (by omega))) (Lib.hid big_1)).mono ?_
      rintro e' W12 ⟨rfl, hC⟩
      have hB12 := hB11.trans (hC.mono hz11)
      have hz12 := hB12.size
      clear hC hB11 hz11
      go_wp2
      go_ret
      exact ⟨by rw [HE.out]; try rfl, hB12⟩
    · have hpar2 : ((N : Int) % 2 == 1) = false := by rw [beq_eq_false_iff_ne]; omega
      have HE : Hid (wholeP 2 a = rnd 0 sa (two 149 * N) 1) := Lib.hid (by
        rw [hE1, if_neg (by simp [v0c, hpar])]
        exact whole_fin (by omega))
      subst v0c
      clear hpar v1c
      clear hna hno hx hsa hex hbig hx0 hoE ob1 ob2 ob3 hs0 IA hnn hc hexa hlt0 hd p1 p2 p3 p4 hl0 hE0 hE1 hM hK hv
      go_enter Try.func70, Try.ntmps70
      have hB0 := Below.refl w.heap.size w
      have hz0 := hB0.size
      go_wp2_with fail
      refine (rnone_at h NA).mono ?_
      rintro e' w' ⟨rfl, rfl⟩
      go_wp2_with fail
      refine (rabs_at h HX).mono ?_
      rintro e' w' ⟨rfl, rfl⟩
      go_wp2_with fail
      refine (rbelow_at SA).mono ?_
      rintro e' w' ⟨rfl, rfl⟩
      go_wp2_with fail
      refine (rcut_any a _ h).mono ?_
      rintro e' w' ⟨-, hc, rfl⟩
      rw [hc (by have h1 := HXL.out; have h2 := HX.out; omega), HN.out]
      clear hc
      go_wp2_with fail
      refine (amount_nv x _ (by omega)).mono ?_
      rintro e' W1 ⟨A1, k1, c1, rfl, v1, hC⟩
      have hB1 := hB0.trans (hC.mono hz0)
      have hz1 := hB1.size
      clear hC hB0 hz0
      go_wp2_with fail
      refine (of_nv N _ (Lib.hid (by omega))).mono ?_
      rintro e' W2 ⟨A2, k2, c2, rfl, v2, hC⟩
      have hB2 := hB1.trans (hC.mono hz1)
      have hz2 := hB2.size
      have v1 := v1.below hC
      clear hC hB1 hz1
      go_wp2_with fail
      refine (twice_nv (k := 149) v2 (ten_thirty (big_24 (by omega))) (by omega) (Lib.hid rfl)).mono ?_
      rintro e' W3 ⟨A3, k3, c3, rfl, v3, hC⟩
      have hB3 := hB2.trans (hC.mono hz2)
      have hz3 := hB3.size
      have v1 := v1.below hC
      have v2 := v2.below hC
      clear hC hB2 hz2
      go_wp2_with fail
      refine (compare_nv v3 v1 (ten_thirty (big_149n (by omega))) (amt_big (by omega)) HC).mono ?_
      rintro e' w' ⟨rfl, nd3, rfl⟩
      have hB4 := below_drewN hB3 nd3
      have hz4 := hB4.size
      have v1 := v1.below (below_drewN (Below.refl _ _) nd3)
      have v2 := v2.below (below_drewN (Below.refl _ _) nd3)
      have v3 := v3.below (below_drewN (Below.refl _ _) nd3)
      clear hB3 hz3
      go_wp2_with fail
      refine (twice_nv (k := 1) v1 (amt_big (by omega)) (by omega) (Lib.hid rfl)).mono ?_
      rintro e' W5 ⟨A5, k5, c5, rfl, u1, hC⟩
      have hB5 := hB4.trans (hC.mono hz4)
      have hz5 := hB5.size
      have v1 := v1.below hC
      have v2 := v2.below hC
      have v3 := v3.below hC
      clear hC hB4 hz4
      go_wp2_with fail
      refine (of_nv K _ (Lib.hid (by omega))).mono ?_
      rintro e' W6 ⟨A6, k6, c6, rfl, u2, hC⟩
      have hB6 := hB5.trans (hC.mono hz5)
      have hz6 := hB6.size
      have v1 := v1.below hC
      have v2 := v2.below hC
      have v3 := v3.below hC
      have u1 := u1.below hC
      clear hC hB5 hz5
      go_wp2_with fail
      refine (twice_nv (k := 149) u2 (ten_thirty (big_24 (by omega))) (by omega) (Lib.hid rfl)).mono ?_
      rintro e' W7 ⟨A7, k7, c7, rfl, u3, hC⟩
      have hB7 := hB6.trans (hC.mono hz6)
      have hz7 := hB7.size
      have v1 := v1.below hC
      have v2 := v2.below hC
      have v3 := v3.below hC
      have u1 := u1.below hC
      have u2 := u2.below hC
      clear hC hB6 hz6
      go_wp2_with fail
      refine (compare_nv u1 u3 (two_p (amt_ten (by omega))) (ten_thirty (big_149n (by omega))) HV).mono ?_
      rintro e' w' ⟨rfl, nd7, rfl⟩
      have hB8 := below_drewN hB7 nd7
      have hz8 := hB8.size
      have v1 := v1.below (below_drewN (Below.refl _ _) nd7)
      have v2 := v2.below (below_drewN (Below.refl _ _) nd7)
      have v3 := v3.below (below_drewN (Below.refl _ _) nd7)
      have u1 := u1.below (below_drewN (Below.refl _ _) nd7)
      have u2 := u2.below (below_drewN (Below.refl _ _) nd7)
      have u3 := u3.below (below_drewN (Below.refl _ _) nd7)
      clear hB7 hz7
      go_wp2_with fail
      refine (of_nv N _ (Lib.hid (by omega))).mono ?_
      rintro e' W9 ⟨A9, k9, c9, rfl, v4, hC⟩
      have hB9 := hB8.trans (hC.mono hz8)
      have hz9 := hB9.size
      have v1 := v1.below hC
      have v2 := v2.below hC
      have v3 := v3.below hC
      have u1 := u1.below hC
      have u2 := u2.below hC
      have u3 := u3.below hC
      clear hC hB8 hz8
      go_wp2_with fail
      refine (twice_nv (k := 149) v4 (ten_thirty (big_24 (by omega))) (by omega) (Lib.hid rfl)).mono ?_
      rintro e' W10 ⟨A10, k10, c10, rfl, v5, hC⟩
      have hB10 := hB9.trans (hC.mono hz9)
      have hz10 := hB10.size
      have v1 := v1.below hC
      have v2 := v2.below hC
      have v3 := v3.below hC
      have u1 := u1.below hC
      have u2 := u2.below hC
      have u3 := u3.below hC
      have v4 := v4.below hC
      clear hC hB9 hz9
      go_wp2_with fail
      refine (of_nv 1 _ (Lib.hid (by decide))).mono ?_
      rintro e' W11 ⟨A11, k11, c11, rfl, v6, hC⟩
      have hB11 := hB10.trans (hC.mono hz10)
      have hz11 := hB11.size
      have v1 := v1.below hC
      have v2 := v2.below hC
      have v3 := v3.below hC
      have u1 := u1.below hC
      have u2 := u2.below hC
      have u3 := u3.below hC
      have v4 := v4.below hC
      have v5 := v5.below hC
      clear hC hB10 hz10
      go_wp2_with fail
      refine (rounded_any v5 v6 (Lib.hid (big_149n (by omega))) (Lib.hid big_1)).mono ?_
      rintro e' W12 ⟨rfl, hC⟩
      have hB12 := hB11.trans (hC.mono hz11)
      have hz12 := hB12.size
      clear hC hB11 hz11
      go_wp2
      go_ret
      exact ⟨by rw [HE.out]; try rfl, hB12⟩
  · have bv : (v == 0) = false := by rw [beq_eq_false_iff_ne]; exact v0c
    have HE : Hid (wholeP 2 a = rnd 0 sa (two 149 * N) 1) := Lib.hid (by
      rw [hE1, if_neg (by simp [v0c, v1c])]
      exact whole_fin (by omega))
    clear v0c
    clear hna hno hx hsa hex hbig hx0 hoE ob1 ob2 ob3 hs0 IA hnn hc hexa hlt0 hd p1 p2 p3 p4 hl0 hE0 hE1 hM hK hv
    go_enter Try.func70, Try.ntmps70
    have hB0 := Below.refl w.heap.size w
    have hz0 := hB0.size
    go_wp2_with fail
    refine (rnone_at h NA).mono ?_
    rintro e' w' ⟨rfl, rfl⟩
    go_wp2_with fail
    refine (rabs_at h HX).mono ?_
    rintro e' w' ⟨rfl, rfl⟩
    go_wp2_with fail
    refine (rbelow_at SA).mono ?_
    rintro e' w' ⟨rfl, rfl⟩
    go_wp2_with fail
    refine (rcut_any a _ h).mono ?_
    rintro e' w' ⟨-, hc, rfl⟩
    rw [hc (by have h1 := HXL.out; have h2 := HX.out; omega), HN.out]
    clear hc
    go_wp2_with fail
    refine (amount_nv x _ (by omega)).mono ?_
    rintro e' W1 ⟨A1, k1, c1, rfl, v1, hC⟩
    have hB1 := hB0.trans (hC.mono hz0)
    have hz1 := hB1.size
    clear hC hB0 hz0
    go_wp2_with fail
    refine (of_nv N _ (Lib.hid (by omega))).mono ?_
    rintro e' W2 ⟨A2, k2, c2, rfl, v2, hC⟩
    have hB2 := hB1.trans (hC.mono hz1)
    have hz2 := hB2.size
    have v1 := v1.below hC
    clear hC hB1 hz1
    go_wp2_with fail
    refine (twice_nv (k := 149) v2 (ten_thirty (big_24 (by omega))) (by omega) (Lib.hid rfl)).mono ?_
    rintro e' W3 ⟨A3, k3, c3, rfl, v3, hC⟩
    have hB3 := hB2.trans (hC.mono hz2)
    have hz3 := hB3.size
    have v1 := v1.below hC
    have v2 := v2.below hC
    clear hC hB2 hz2
    go_wp2_with fail
    refine (compare_nv v3 v1 (ten_thirty (big_149n (by omega))) (amt_big (by omega)) HC).mono ?_
    rintro e' w' ⟨rfl, nd3, rfl⟩
    have hB4 := below_drewN hB3 nd3
    have hz4 := hB4.size
    have v1 := v1.below (below_drewN (Below.refl _ _) nd3)
    have v2 := v2.below (below_drewN (Below.refl _ _) nd3)
    have v3 := v3.below (below_drewN (Below.refl _ _) nd3)
    clear hB3 hz3
    go_wp2_with fail
    refine (twice_nv (k := 1) v1 (amt_big (by omega)) (by omega) (Lib.hid rfl)).mono ?_
    rintro e' W5 ⟨A5, k5, c5, rfl, u1, hC⟩
    have hB5 := hB4.trans (hC.mono hz4)
    have hz5 := hB5.size
    have v1 := v1.below hC
    have v2 := v2.below hC
    have v3 := v3.below hC
    clear hC hB4 hz4
    go_wp2_with fail
    refine (of_nv K _ (Lib.hid (by omega))).mono ?_
    rintro e' W6 ⟨A6, k6, c6, rfl, u2, hC⟩
    have hB6 := hB5.trans (hC.mono hz5)
    have hz6 := hB6.size
    have v1 := v1.below hC
    have v2 := v2.below hC
    have v3 := v3.below hC
    have u1 := u1.below hC
    clear hC hB5 hz5
    go_wp2_with fail
    refine (twice_nv (k := 149) u2 (ten_thirty (big_24 (by omega))) (by omega) (Lib.hid rfl)).mono ?_
    rintro e' W7 ⟨A7, k7, c7, rfl, u3, hC⟩
    have hB7 := hB6.trans (hC.mono hz6)
    have hz7 := hB7.size
    have v1 := v1.below hC
    have v2 := v2.below hC
    have v3 := v3.below hC
    have u1 := u1.below hC
    have u2 := u2.below hC
    clear hC hB6 hz6
    go_wp2_with fail
    refine (compare_nv u1 u3 (two_p (amt_ten (by omega))) (ten_thirty (big_149n (by omega))) HV).mono ?_
    rintro e' w' ⟨rfl, nd7, rfl⟩
    have hB8 := below_drewN hB7 nd7
    have hz8 := hB8.size
    have v1 := v1.below (below_drewN (Below.refl _ _) nd7)
    have v2 := v2.below (below_drewN (Below.refl _ _) nd7)
    have v3 := v3.below (below_drewN (Below.refl _ _) nd7)
    have u1 := u1.below (below_drewN (Below.refl _ _) nd7)
    have u2 := u2.below (below_drewN (Below.refl _ _) nd7)
    have u3 := u3.below (below_drewN (Below.refl _ _) nd7)
    clear hB7 hz7
    go_wp2_with fail
    refine (of_nv N _ (Lib.hid (by omega))).mono ?_
    rintro e' W9 ⟨A9, k9, c9, rfl, v4, hC⟩
    have hB9 := hB8.trans (hC.mono hz8)
    have hz9 := hB9.size
    have v1 := v1.below hC
    have v2 := v2.below hC
    have v3 := v3.below hC
    have u1 := u1.below hC
    have u2 := u2.below hC
    have u3 := u3.below hC
    clear hC hB8 hz8
    go_wp2_with fail
    refine (twice_nv (k := 149) v4 (ten_thirty (big_24 (by omega))) (by omega) (Lib.hid rfl)).mono ?_
    rintro e' W10 ⟨A10, k10, c10, rfl, v5, hC⟩
    have hB10 := hB9.trans (hC.mono hz9)
    have hz10 := hB10.size
    have v1 := v1.below hC
    have v2 := v2.below hC
    have v3 := v3.below hC
    have u1 := u1.below hC
    have u2 := u2.below hC
    have u3 := u3.below hC
    have v4 := v4.below hC
    clear hC hB9 hz9
    go_wp2_with fail
    refine (of_nv 1 _ (Lib.hid (by decide))).mono ?_
    rintro e' W11 ⟨A11, k11, c11, rfl, v6, hC⟩
    have hB11 := hB10.trans (hC.mono hz10)
    have hz11 := hB11.size
    have v1 := v1.below hC
    have v2 := v2.below hC
    have v3 := v3.below hC
    have u1 := u1.below hC
    have u2 := u2.below hC
    have u3 := u3.below hC
    have v4 := v4.below hC
    have v5 := v5.below hC
    clear hC hB10 hz10
    go_wp2_with fail
    refine (rounded_any v5 v6 (Lib.hid (big_149n (by omega))) (Lib.hid big_1)).mono ?_
    rintro e' W12 ⟨rfl, hC⟩
    have hB12 := hB11.trans (hC.mono hz11)
    have hz12 := hB12.size
    clear hC hB11 hz11
    go_wp2
    go_ret
    exact ⟨by rw [HE.out]; try rfl, hB12⟩
end Go.Proofs.Ytegeadkilolngaa
