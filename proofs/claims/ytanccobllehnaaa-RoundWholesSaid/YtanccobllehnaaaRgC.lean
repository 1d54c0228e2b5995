/- The document's cut and ToInt. -/
import Derived.Test.YtanccobllehnaaaRgI
namespace Go.Proofs.Ytanccobllehnaaa
open Go.RowKit

/-- cut, by the exponent's bits -/
def cutV (s E : Nat) : Nat := if 150 ≤ E then s * two (E - 150) else s / two (150 - E)
theorem cutA_V {a E s : Nat} (hE : oE a = (E : Int) - 150) (hs : oS a = s) : cutA a = cutV s E := by
  unfold cutA cutV
  rw [hE, hs]
  by_cases h : 150 ≤ E
  · rw [if_pos (by omega), if_pos h, show ((E : Int) - 150).toNat = E - 150 from by omega]
  · rw [if_neg (by omega), if_neg h, show (-((E : Int) - 150)).toNat = 150 - E from by omega]
def C1rel (s E : Nat) (w : World) (ev fv : Value) (wr : World) : Prop := ∃ j F : Nat, ev = .int .i64 ((E : Int) - (j : Int)) ∧ fv = .int .u64 (F : Int) ∧ Hid (F = s * two j) ∧ (j = 0 ∨ 150 + j ≤ E) ∧ wr = w
def C2rel (F1 E1 : Nat) (w : World) (ev fv : Value) (wr : World) : Prop := ∃ j F : Nat, ev = .int .i64 ((E1 : Int) + (j : Int)) ∧ fv = .int .u64 (F : Int) ∧ Hid (F = F1 / two j) ∧ E1 + j ≤ 150 ∧ wr = w
theorem cut_steps {s E j i F : Nat} (hj : j = 0 ∨ 150 + j ≤ E) (he : E ≤ 150 + j) (hF : F = s * two j / two i) (h : E - j + i = 150 ∨ (E - j + i ≤ 150 ∧ F = 0)) : F = cutV s E := by
  unfold cutV
  by_cases h0 : j = 0
  · subst h0
    rw [show two 0 = 1 from rfl, Nat.mul_one] at hF
    by_cases hE : 150 ≤ E
    · have hi : i = 0 := by omega
      rw [if_pos hE, hF, hi, show E - 150 = 0 from by omega, show two 0 = 1 from rfl, Nat.div_one, Nat.mul_one]
    · rw [if_neg hE]
      rcases h with h | ⟨h, h'⟩
      · rw [hF]; congr 2; omega
      · rw [h']
        rw [h'] at hF
        have h1 : s < two i := by
          rcases Nat.lt_or_ge s (two i) with hh | hh
          · exact hh
          · have := Nat.div_pos hh (two_pos i)
            omega
        have h2 := two_le (show i ≤ 150 - E by omega)
        exact (Nat.div_eq_of_lt (by omega)).symm
  · have hE : E - j = 150 := by omega
    have hi : i = 0 := by omega
    rw [if_pos (by omega), hF, hi, show two 0 = 1 from rfl, Nat.div_one, show E - 150 = j from by omega]
theorem two_bound {s j E : Nat} (hs : s < 16777216) (hE : E < 190) (hj : j = 0 ∨ 150 + j ≤ E) : s * two j < 9223372036854775808 := by
  have h1 := two_le (show j ≤ 39 by omega)
  have h2 : s * two j ≤ 16777215 * two 39 := Nat.mul_le_mul (by omega) h1
  have h3 : two 39 = 549755813888 := rfl
  omega
set_option maxRecDepth 100000 in
set_option maxHeartbeats 1600000 in
theorem rcut_any (a : Nat) (w : World) (h : Hid (a < 4294967296)) :
    Calls Try.prog 61 #[.int .u32 (a : Int)] w fun e w' => (1593835520 ≤ absP a → e = .returned (.tuple #[.int .u64 0, .bool true])) ∧ (absP a < 1593835520 → e = .returned (.tuple #[.int .u64 (cutA a : Int), .bool false])) ∧ w' = w := by
  obtain ⟨x, hx⟩ : ∃ x, absP a = x := ⟨_, rfl⟩
  have HX := Lib.hid hx
  have hxl : x < 2147483648 := by rw [← hx]; unfold absP; omega
  have hfx : a % 8388608 = x % 8388608 := by rw [← hx]; unfold absP; omega
  have hex : a / 8388608 % 256 = x / 8388608 := by rw [← hx]; unfold absP; omega
  obtain ⟨E0, hE0⟩ : ∃ e, x / 8388608 = e := ⟨_, rfl⟩
  obtain ⟨f0, hf0⟩ : ∃ f, x % 8388608 = f := ⟨_, rfl⟩
  have q1 : (x : Int) / 8388608 = (E0 : Int) := by omega
  have q2 : (a : Int) % 8388608 = (f0 : Int) := by omega
  have hf1 : f0 < 8388608 := by omega
  have hE1 : E0 < 256 := by omega
  by_cases hbig : 1593835520 ≤ x
  · have HBIG := Lib.hid hbig
    have hc : decide ((190 : Int) ≤ (E0 : Int)) = true := decide_eq_true (by omega)
    rw [hx]
    clear hx hxl hfx hex hE0 hf0 hbig
    go_enter Try.func61, Try.ntmps61
    go_wp2_with fail
    refine (rabs_at h HX).mono ?_
    rintro e' w' ⟨rfl, rfl⟩
    go_wp2
    go_ret2
    exact ⟨fun _ => rfl, fun h => by have := HBIG.out; omega, rfl⟩
  have HBIG := Lib.hid hbig
  have hc : decide ((190 : Int) ≤ (E0 : Int)) = false := decide_eq_false (by omega)
  have hE190 : E0 < 190 := by omega
  obtain ⟨E, s, hEE, hEs, hss, hE2, HCV, hpos⟩ : ∃ E s : Nat, E = (if E0 = 0 then 1 else E0) ∧ s = (if E0 = 0 then f0 else f0 + 8388608) ∧ s < 16777216 ∧ E < 190 ∧ Hid (cutA a = cutV s E) ∧ 1 ≤ E := by
    refine ⟨_, _, rfl, rfl, ?_, ?_, ?_, ?_⟩
    · split <;> omega
    · split <;> omega
    · refine Lib.hid (cutA_V ?_ ?_)
      · unfold oE; rw [hex, hE0]; split <;> rfl
      · unfold oS; rw [hex, hE0, hfx, hf0]
    · split <;> omega
  rw [hx]
  have HEE := Lib.hid hEE
  have HES := Lib.hid hEs
  clear hx hxl hfx hex hE0 hf0 hbig hEE hEs
  have hB : Hid (∀ j, (j = 0 ∨ 150 + j ≤ E) → s * two j < 9223372036854775808) := Lib.hid fun j hj => two_bound hss hE2 hj
  by_cases he0 : E0 = 0
  · have HE1 : Hid (E = 1 ∧ s = f0) := Lib.hid (by rw [HEE.out, HES.out, if_pos he0, if_pos he0]; exact ⟨rfl, rfl⟩)
    have c0 : ¬ (0 : Int) < (E0 : Int) := by omega
    clear HEE HES he0
    go_enter Try.func61, Try.ntmps61
    go_wp2_with fail
    refine (rabs_at h HX).mono ?_
    rintro e' w' ⟨rfl, rfl⟩
    go_wp2
    go_loopw [4, 5] (fun ev fv wr => C1rel s E w' ev fv wr) (fun ev _ _ => (intOf ev).toNat)
    case atStart => exact ⟨0, f0, by rw [HE1.out.1]; simp, rfl, Lib.hid (by rw [HE1.out.2, show two 0 = 1 from rfl, Nat.mul_one]), .inl rfl, rfl⟩
    case round =>
      obtain ⟨j, Fv, rfl, rfl, HF, hj, rfl⟩ := hrel
      have hFl : Fv < 9223372036854775808 := by rw [HF.out]; exact hB.out j hj
      by_cases hgt : 150 + j < E
      · have hg : (150 : Int) < (E : Int) - (j : Int) := by omega
        have h2F : Fv * 2 < 9223372036854775808 := by
          have := hB.out (j + 1) (by omega)
          rw [two_succ, Nat.mul_left_comm, ← HF.out] at this
          omega
        have hmul : ((Fv : Int) * 2) = ((Fv * 2 : Nat) : Int) := by simp
        obtain ⟨F2, hF2⟩ : ∃ x, Fv * 2 = x := ⟨_, rfl⟩
        rw [hF2] at hmul h2F
        have HF2 : Hid (F2 = s * two (j + 1)) := Lib.hid (by rw [two_succ, Nat.mul_left_comm, ← HF.out]; omega)
        have HL := Lib.hid h2F
        have HL2 := Lib.hid hFl
        have hwr : IntKind.u64.wrap (F2 : Int) = (F2 : Int) := wrap64_nat (by omega)
        have HJ : Hid (j + 1 = 0 ∨ 150 + (j + 1) ≤ E) := Lib.hid (by omega)
        clear h2F hFl hF2 hj
        go_wp2
        go_roundw
        case rel => exact ⟨j + 1, F2, by go_num, rfl, HF2, HJ.out, rfl⟩
        case measure => simp [intOf]; omega
      · have hg : ¬ (150 : Int) < (E : Int) - (j : Int) := by omega
        obtain ⟨E1, hE1⟩ : ∃ E1 : Nat, (E : Int) - (j : Int) = (E1 : Int) := ⟨E - j, by omega⟩
        have HJ := Lib.hid (show (j = 0 ∨ 150 + j ≤ E) ∧ E ≤ 150 + j ∧ E1 = E - j from ⟨hj, by omega, by omega⟩)
        have hE150 : E1 ≤ 150 := by omega
        rw [hE1]
        rw [hE1] at hg
        have HFl := Lib.hid hFl
        clear hgt hE1 hj hFl
        go_wp2
        go_loopw [4, 5] (fun ev fv wq => C2rel Fv E1 wr ev fv wq) (fun ev _ _ => (150 - intOf ev).toNat)
        case atStart => exact ⟨0, Fv, by simp, rfl, Lib.hid (by rw [show two 0 = 1 from rfl, Nat.div_one]), by omega, rfl⟩
        case round =>
          obtain ⟨i, G, rfl, rfl, HG, hi, rfl⟩ := hrel
          have hGl : G < 9223372036854775808 := by rw [HG.out]; exact Nat.lt_of_le_of_lt (Nat.div_le_self _ _) HFl.out
          by_cases hlt : E1 + i < 150
          · have hl : (E1 : Int) + (i : Int) < 150 := by omega
            by_cases hp : 0 < G
            · have hp' : (0 : Int) < (G : Int) := by omega
              have hdiv : (G : Int) / 2 = ((G / 2 : Nat) : Int) := by omega
              obtain ⟨G2, hG2⟩ : ∃ x, G / 2 = x := ⟨_, rfl⟩
              rw [hG2] at hdiv
              have HG2 : Hid (G2 = Fv / two (i + 1)) := Lib.hid (by rw [← hG2, HG.out, two_succ, Nat.mul_comm 2, Nat.div_div_eq_div_mul])
              have HI : Hid (E1 + (i + 1) ≤ 150) := Lib.hid (by omega)
              have hwr : IntKind.u64.wrap (G2 : Int) = (G2 : Int) := wrap64_nat (by omega)
              clear hGl hG2 hi
              go_wp2
              go_roundw
              case rel => exact ⟨i + 1, G2, by go_num, rfl, HG2, HI.out, rfl⟩
              case measure => simp [intOf]; omega
            · have hp' : ¬ (0 : Int) < (G : Int) := by omega
              have HR : Hid (cutA a = G) := Lib.hid (by
                rw [HCV.out]
                obtain ⟨j1, j2, j3⟩ := HJ.out
                exact (cut_steps j1 j2 (by rw [← HF.out]; exact HG.out) (.inr (by omega))).symm)
              clear hGl
              go_wp2
              go_ret2
              exact ⟨fun h => by have := HBIG.out; omega, fun _ => by rw [HR.out]; try rfl, rfl⟩
          · have hl : ¬ (E1 : Int) + (i : Int) < 150 := by omega
            have HR : Hid (cutA a = G) := Lib.hid (by
              rw [HCV.out]
              obtain ⟨j1, j2, j3⟩ := HJ.out
              exact (cut_steps j1 j2 (by rw [← HF.out]; exact HG.out) (.inl (by omega))).symm)
            clear hGl
            go_wp2
            go_ret2
            exact ⟨fun h => by have := HBIG.out; omega, fun _ => by rw [HR.out]; try rfl, rfl⟩
  · have HE1 : Hid (E = E0 ∧ s = f0 + 8388608) := Lib.hid (by rw [HEE.out, HES.out, if_neg he0, if_neg he0]; exact ⟨rfl, rfl⟩)
    have c0 : (0 : Int) < (E0 : Int) := by omega
    clear HEE HES he0
    go_enter Try.func61, Try.ntmps61
    go_wp2_with fail
    refine (rabs_at h HX).mono ?_
    rintro e' w' ⟨rfl, rfl⟩
    go_wp2
    go_loopw [4, 5] (fun ev fv wr => C1rel s E w' ev fv wr) (fun ev _ _ => (intOf ev).toNat)
    case atStart => exact ⟨0, f0 + 8388608, by rw [HE1.out.1]; simp, by simp, Lib.hid (by rw [HE1.out.2, show two 0 = 1 from rfl, Nat.mul_one]), .inl rfl, rfl⟩
    case round =>
      obtain ⟨j, Fv, rfl, rfl, HF, hj, rfl⟩ := hrel
      have hFl : Fv < 9223372036854775808 := by rw [HF.out]; exact hB.out j hj
      by_cases hgt : 150 + j < E
      · have hg : (150 : Int) < (E : Int) - (j : Int) := by omega
        have h2F : Fv * 2 < 9223372036854775808 := by
          have := hB.out (j + 1) (by omega)
          rw [two_succ, Nat.mul_left_comm, ← HF.out] at this
          omega
        have hmul : ((Fv : Int) * 2) = ((Fv * 2 : Nat) : Int) := by simp
        obtain ⟨F2, hF2⟩ : ∃ x, Fv * 2 = x := ⟨_, rfl⟩
        rw [hF2] at hmul h2F
        have HF2 : Hid (F2 = s * two (j + 1)) := Lib.hid (by rw [two_succ, Nat.mul_left_comm, ← HF.out]; omega)
        have HL := Lib.hid h2F
        have HL2 := Lib.hid hFl
        have hwr : IntKind.u64.wrap (F2 : Int) = (F2 : Int) := wrap64_nat (by omega)
        have HJ : Hid (j + 1 = 0 ∨ 150 + (j + 1) ≤ E) := Lib.hid (by omega)
        clear h2F hFl hF2 hj
        go_wp2
        go_roundw
        case rel => exact ⟨j + 1, F2, by go_num, rfl, HF2, HJ.out, rfl⟩
        case measure => simp [intOf]; omega
      · have hg : ¬ (150 : Int) < (E : Int) - (j : Int) := by omega
        obtain ⟨E1, hE1⟩ : ∃ E1 : Nat, (E : Int) - (j : Int) = (E1 : Int) := ⟨E - j, by omega⟩
        have HJ := Lib.hid (show (j = 0 ∨ 150 + j ≤ E) ∧ E ≤ 150 + j ∧ E1 = E - j from ⟨hj, by omega, by omega⟩)
        have hE150 : E1 ≤ 150 := by omega
        rw [hE1]
        rw [hE1] at hg
        have HFl := Lib.hid hFl
        clear hgt hE1 hj hFl
        go_wp2
        go_loopw [4, 5] (fun ev fv wq => C2rel Fv E1 wr ev fv wq) (fun ev _ _ => (150 - intOf ev).toNat)
        case atStart => exact ⟨0, Fv, by simp, rfl, Lib.hid (by rw [show two 0 = 1 from rfl, Nat.div_one]), by omega, rfl⟩
        case round =>
          obtain ⟨i, G, rfl, rfl, HG, hi, rfl⟩ := hrel
          have hGl : G < 9223372036854775808 := by rw [HG.out]; exact Nat.lt_of_le_of_lt (Nat.div_le_self _ _) HFl.out
          by_cases hlt : E1 + i < 150
          · have hl : (E1 : Int) + (i : Int) < 150 := by omega
            by_cases hp : 0 < G
            · have hp' : (0 : Int) < (G : Int) := by omega
              have hdiv : (G : Int) / 2 = ((G / 2 : Nat) : Int) := by omega
              obtain ⟨G2, hG2⟩ : ∃ x, G / 2 = x := ⟨_, rfl⟩
              rw [hG2] at hdiv
              have HG2 : Hid (G2 = Fv / two (i + 1)) := Lib.hid (by rw [← hG2, HG.out, two_succ, Nat.mul_comm 2, Nat.div_div_eq_div_mul])
              have HI : Hid (E1 + (i + 1) ≤ 150) := Lib.hid (by omega)
              have hwr : IntKind.u64.wrap (G2 : Int) = (G2 : Int) := wrap64_nat (by omega)
              clear hGl hG2 hi
              go_wp2
              go_roundw
              case rel => exact ⟨i + 1, G2, by go_num, rfl, HG2, HI.out, rfl⟩
              case measure => simp [intOf]; omega
            · have hp' : ¬ (0 : Int) < (G : Int) := by omega
              have HR : Hid (cutA a = G) := Lib.hid (by
                rw [HCV.out]
                obtain ⟨j1, j2, j3⟩ := HJ.out
                exact (cut_steps j1 j2 (by rw [← HF.out]; exact HG.out) (.inr (by omega))).symm)
              clear hGl
              go_wp2
              go_ret2
              exact ⟨fun h => by have := HBIG.out; omega, fun _ => by rw [HR.out]; try rfl, rfl⟩
          · have hl : ¬ (E1 : Int) + (i : Int) < 150 := by omega
            have HR : Hid (cutA a = G) := Lib.hid (by
              rw [HCV.out]
              obtain ⟨j1, j2, j3⟩ := HJ.out
              exact (cut_steps j1 j2 (by rw [← HF.out]; exact HG.out) (.inl (by omega))).symm)
            clear hGl
            go_wp2
            go_ret2
            exact ⟨fun h => by have := HBIG.out; omega, fun _ => by rw [HR.out]; try rfl, rfl⟩
set_option maxRecDepth 100000 in
set_option maxHeartbeats 1600000 in
theorem rtoint_any (a : Nat) (w : World) (h : Hid (a < 4294967296)) :
    Calls Try.prog 25 #[.int .u32 (a : Int)] w fun e w' => e = .returned (.int .i64 (toIntP a)) ∧ w' = w := by
  obtain ⟨sa, hsa⟩ : ∃ s, decide (2147483648 ≤ a) = s := ⟨_, rfl⟩
  have SA := Lib.hid hsa
  cases hna : nanP a
  case true =>
    have NA := Lib.hid hna
    have HE : Hid (toIntP a = 0) := Lib.hid (by unfold toIntP; rw [if_pos hna])
    clear hna hsa
    go_enter Try.func25, Try.ntmps25
    go_wp2_with fail
    refine (rnone_at h NA).mono ?_
    rintro e w' ⟨rfl, rfl⟩
    go_wp2
    go_ret
    exact ⟨by rw [HE.out]; try rfl, rfl⟩
  have NA := Lib.hid hna
  have hno : ¬ nanP a = true := by rw [hna]; decide
  by_cases hbig : 1593835520 ≤ absP a
  · have HE : Hid (toIntP a = if sa = true then -9223372036854775808 else 9223372036854775807) := Lib.hid (by unfold toIntP; rw [if_neg hno, if_pos hbig, ← hsa]; rfl)
    have HBIG := Lib.hid hbig
    clear hna hno hsa hbig
    cases sa
    all_goals
      go_enter Try.func25, Try.ntmps25
      go_wp2_with fail
      refine (rnone_at h NA).mono ?_
      rintro e w' ⟨rfl, rfl⟩
      go_wp2_with fail
      refine (rcut_any a _ h).mono ?_
      rintro e w' ⟨hc, -, rfl⟩
      rw [hc HBIG.out]
      clear hc
      go_wp2_with fail
      refine (rbelow_at SA).mono ?_
      rintro e w' ⟨rfl, rfl⟩
      go_wp2
      go_ret
      exact ⟨by rw [HE.out]; try rfl, rfl⟩
  · have hcl := cutA_lt (a := a) (by omega)
    obtain ⟨N, hN⟩ : ∃ n, cutA a = n := ⟨_, rfl⟩
    have HE : Hid (toIntP a = if sa = true then -(N : Int) else (N : Int)) := Lib.hid (by unfold toIntP; rw [if_neg hno, if_neg hbig, ← hsa, hN]; rfl)
    have HBIG := Lib.hid hbig
    have HN := Lib.hid hN
    rw [hN] at hcl
    have hsw : wrap64 (N : Int) = (N : Int) := IntWalk.wrap64_in _ (by omega)
    have hnw : wrap64 (-(N : Int)) = -(N : Int) := IntWalk.wrap64_in _ (by omega)
    have hsw2 : IntKind.i64.wrap (N : Int) = (N : Int) := IntWalk.i64_in _ (by omega)
    have hnw2 : IntKind.i64.wrap (-(N : Int)) = -(N : Int) := IntWalk.i64_in _ (by omega)
    clear hna hno hsa hbig hcl hN
    cases sa
    all_goals
      go_enter Try.func25, Try.ntmps25
      go_wp2_with fail
      refine (rnone_at h NA).mono ?_
      rintro e w' ⟨rfl, rfl⟩
      go_wp2_with fail
      refine (rcut_any a _ h).mono ?_
      rintro e w' ⟨-, hc, rfl⟩
      rw [hc (by have := HBIG.out; omega), HN.out]
      clear hc
      go_wp2_with fail
      refine (rbelow_at SA).mono ?_
      rintro e w' ⟨rfl, rfl⟩
      go_wp2
      go_ret
      exact ⟨by rw [HE.out]; try rfl, rfl⟩
end Go.Proofs.Ytanccobllehnaaa
