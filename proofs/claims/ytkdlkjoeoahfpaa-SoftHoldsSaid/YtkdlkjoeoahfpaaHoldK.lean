/- Contracts of the statement's next and holds. -/
import Derived.Test.YtkdlkjoeoahfpaaHoldP
namespace Go.Proofs.Ytkdlkjoeoahfpaa
open Go.RowKit

theorem next_lt {a : Nat} (h : a < 4294967296) : nextP a < 4294967296 := by unfold nextP; split; · omega
                                                                            · split <;> omega
set_option maxRecDepth 100000 in
theorem next_at {a r : Nat} {w : World} (h : Hid (a < 4294967296)) (hr : Hid (nextP a = r)) : Calls Try.prog 66 #[.int .u32 (a : Int)] w fun e w' => e = .returned (.int .u32 (r : Int)) ∧ w' = w := by
  have hh := h.out
  obtain ⟨z, hz⟩ : ∃ z, absP a = z := ⟨_, rfl⟩
  have HZ := Lib.hid hz
  by_cases h0 : z = 0
  · subst h0
    have HR : Hid (r = 1) := Lib.hid (by rw [← hr.out]; unfold nextP; rw [if_pos (show a % 2147483648 = 0 from hz)])
    clear hz
    go_enter Try.func66, Try.ntmps66
    go_wp2_with fail
    refine (abs_any a _ h.out).mono ?_
    rintro e w' ⟨rfl, rfl⟩
    rw [HZ.out]
    go_wp2
    go_ret
    exact ⟨by rw [HR.out]; rfl, rfl⟩
  · have hz0 : ((z : Int) == 0) = false := by rw [beq_eq_false_iff_ne]; omega
    have hza : ¬ a % 2147483648 = 0 := fun e => h0 (hz.symm.trans e)
    by_cases hs : 2147483648 ≤ a
    · have HR : Hid ((r : Int) = (a : Int) - 1) := Lib.hid (by rw [← hr.out]; unfold nextP; rw [if_neg hza, if_pos hs]; omega)
      have hs' : 2147483648 ≤ (a : Int) := by omega
      clear hz hza
      go_enter Try.func66, Try.ntmps66
      go_wp2_with fail
      refine (abs_any a _ h.out).mono ?_
      rintro e w' ⟨rfl, rfl⟩
      rw [HZ.out]
      go_wp2
      go_ret
      exact ⟨by rw [HR.out]; rfl, rfl⟩
    · have HR : Hid ((r : Int) = (a : Int) + 1) := Lib.hid (by rw [← hr.out]; unfold nextP; rw [if_neg hza, if_neg hs]; omega)
      have hs' : decide (2147483648 ≤ (a : Int)) = false := decide_eq_false (by omega)
      have hw : IntKind.u32.wrap ((a : Int) + 1) = (r : Int) := by rw [HR.out, IntKind.wrap_u32]; omega
      clear hz hza hs hr hh
      go_enter Try.func66, Try.ntmps66
      go_wp2_with fail
      refine (abs_any a _ h.out).mono ?_
      rintro e w' ⟨rfl, rfl⟩
      rw [HZ.out]
      go_wp2
      go_ret
      exact ⟨by first | rfl | (rw [HR.out]; rfl), rfl⟩

set_option maxRecDepth 100000 in
set_option maxHeartbeats 800000 in
theorem holds_at {d n h : Nat} {w : World} (HD : Hid (d < 4294967296)) (HN : Hid (n < 4294967296)) (HL : Hid (h < 4294967296)) (hh : Hid (HH d n h)) :
    Calls Try.prog 31 #[.int .u32 (d : Int), .int .u32 (n : Int), .int .u32 (h : Int)] w fun e w' => e = .returned (.bool true) ∧ w' = w := by
  rcases hh.out with ⟨e1, e2, e3⟩ | ⟨nd, nn, nh, dn, nh', near⟩
  · subst e2 e3
    have H1 := Lib.hid e1
    clear hh e1
    go_enter Try.func31, Try.ntmps31
    go_wp2_with fail
    refine (nan_at HD H1).mono ?_
    rintro e w' ⟨rfl, rfl⟩
    go_wp2
    go_ret
    exact ⟨rfl, rfl⟩
  · have L1 : Hid (lessP n d = false) := Lib.hid (less_not dn)
    have L2 : Hid (lessP h n = false) := Lib.hid (less_not nh')
    have N1 := Lib.hid nd
    have N2 := Lib.hid nn
    have N3 := Lib.hid nh
    cases he : decide (placeP d = placeP h)
    · have E1 : Hid (equalP d h = false) := Lib.hid (by unfold equalP; rw [nd, nh, he]; rfl)
      have hnx : nanP (nextP d) = false ∧ placeP (nextP d) = placeP h := by
        rcases near with e | e
        · exact absurd e (of_decide_eq_false he)
        · exact e
      have E2 : Hid (equalP (nextP d) h = true) := Lib.hid (by unfold equalP; rw [hnx.1, nh, decide_eq_true hnx.2]; rfl)
      have NL : Hid (nextP d < 4294967296) := Lib.hid (next_lt HD.out)
      clear hh nd nn nh dn nh' near he hnx
      go_enter Try.func31, Try.ntmps31
      go_wp2_with fail
      refine (nan_at HD N1).mono ?_
      rintro e w' ⟨rfl, rfl⟩
      go_wp2_with fail
      refine (nan_at HN N2).mono ?_
      rintro e w' ⟨rfl, rfl⟩
      go_wp2_with fail
      refine (nan_at HL N3).mono ?_
      rintro e w' ⟨rfl, rfl⟩
      go_wp2_with fail
      refine (less_at HN HD L1).mono ?_
      rintro e w' ⟨rfl, rfl⟩
      go_wp2_with fail
      refine (less_at HL HN L2).mono ?_
      rintro e w' ⟨rfl, rfl⟩
      go_wp2_with fail
      refine (equal_at HD HL E1).mono ?_
      rintro e w' ⟨rfl, rfl⟩
      go_wp2_with fail
      refine (next_at HD (Lib.hid rfl)).mono ?_
      rintro e w' ⟨rfl, rfl⟩
      go_wp2_with fail
      refine (equal_at NL HL E2).mono ?_
      rintro e w' ⟨rfl, rfl⟩
      go_wp2
      go_ret
      exact ⟨rfl, rfl⟩
    · have E1 : Hid (equalP d h = true) := Lib.hid (by unfold equalP; rw [nd, nh, he]; rfl)
      clear hh nd nn nh dn nh' near he
      go_enter Try.func31, Try.ntmps31
      go_wp2_with fail
      refine (nan_at HD N1).mono ?_
      rintro e w' ⟨rfl, rfl⟩
      go_wp2_with fail
      refine (nan_at HN N2).mono ?_
      rintro e w' ⟨rfl, rfl⟩
      go_wp2_with fail
      refine (nan_at HL N3).mono ?_
      rintro e w' ⟨rfl, rfl⟩
      go_wp2_with fail
      refine (less_at HN HD L1).mono ?_
      rintro e w' ⟨rfl, rfl⟩
      go_wp2_with fail
      refine (less_at HL HN L2).mono ?_
      rintro e w' ⟨rfl, rfl⟩
      go_wp2_with fail
      refine (equal_at HD HL E1).mono ?_
      rintro e w' ⟨rfl, rfl⟩
      go_wp2
      go_ret
      exact ⟨rfl, rfl⟩
end Go.Proofs.Ytkdlkjoeoahfpaa
