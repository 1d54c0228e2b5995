/- The contract of soft.MulBy. -/
import Derived.Test.YtanccobllehnaaaSoftM
namespace Go.Proofs.Ytanccobllehnaaa
open Go.RowKit

theorem open_at {a : Nat} {xn xnan xinf : Bool} {xe : Int} {xs : Nat} {w : World} (h : Hid (a < 4294967296)) (hx : Hid (openN a = ⟨xn, xnan, xinf, xe, xs⟩)) :
    Calls Try.prog 67 #[.int .u32 (a : Int)] w fun e w' => e = .returned (.agg #[.bool xn, .bool xnan, .bool xinf, .int .i64 xe, .int .u64 (xs : Int)]) ∧ Below w.heap.size w w' := by
  have := open_any a w h.out
  rw [hx.out] at this
  exact this
theorem openN_ok {a : Nat} {xn xnan xinf : Bool} {xe : Int} {xs : Nat} (hx : openN a = ⟨xn, xnan, xinf, xe, xs⟩) : xs < 16777216 ∧ -149 ≤ xe ∧ xe ≤ 104 := by
  unfold openN at hx
  split at hx
  · injection hx with h1 h2 h3 h4 h5; subst h4 h5; omega
  · split at hx
    · injection hx with h1 h2 h3 h4 h5; subst h4 h5; omega
    · injection hx with h1 h2 h3 h4 h5; subst h4 h5; omega
theorem round_at {way : Int} {neg : Bool} {exp : Int} {sig : Int} {s : Nat} {more : Bool} {w : World} {r : Nat} (hs : sig = (s : Int)) (hs64 : s < 18446744073709551616) (he : -9223372036854775808 ≤ exp ∧ exp ≤ 9223372036854775807) (hr : Hid (roundP way neg exp s more = r)) :
    Calls Try.prog 43 #[.int .i64 way, .bool neg, .int .i64 exp, .int .u64 sig, .bool more] w fun e w' => e = .returned (.int .u32 (r : Int)) ∧ w' = w := by
  subst hs
  have := round_any way neg exp s more w hs64 he
  rw [hr.out] at this
  exact this
def mulN (way : Int) (x y : Num) : Nat :=
  if (x.nan || y.nan || (x.inf && !y.inf && y.sig == 0) || (y.inf && !x.inf && x.sig == 0)) = true then 2143289344
  else if (x.inf || y.inf) = true then sgn (x.neg != y.neg) + 2139095040
  else roundP way (x.neg != y.neg) (x.exp + y.exp) (x.sig * y.sig) false
def mulP (way : Int) (a b : Nat) : Nat := mulN way (openN a) (openN b)

set_option maxRecDepth 100000 in
set_option maxHeartbeats 1600000 in
theorem mul_any (way : Int) (a b : Nat) (w : World) (h : Hid (a < 4294967296)) (h' : Hid (b < 4294967296)) :
    Calls Try.prog 35 #[.int .i64 way, .int .u32 (a : Int), .int .u32 (b : Int)] w fun e w' => e = .returned (.int .u32 (mulP way a b : Int)) ∧ Below w.heap.size w w' := by
  obtain ⟨xn, xnan, xinf, xe, xs, hx⟩ : ∃ xn xnan xinf xe xs, openN a = ⟨xn, xnan, xinf, xe, xs⟩ := ⟨_, _, _, _, _, rfl⟩
  obtain ⟨yn, ynan, yinf, ye, ys, hy⟩ : ∃ yn ynan yinf ye ys, openN b = ⟨yn, ynan, yinf, ye, ys⟩ := ⟨_, _, _, _, _, rfl⟩
  obtain ⟨hx1, hx2, hx3⟩ := openN_ok hx
  obtain ⟨hy1, hy2, hy3⟩ := openN_ok hy
  have HM : Hid (mulP way a b = mulN way ⟨xn, xnan, xinf, xe, xs⟩ ⟨yn, ynan, yinf, ye, ys⟩) := Lib.hid (by unfold mulP; rw [hx, hy])
  have HX := Lib.hid hx
  have HY := Lib.hid hy
  clear hx hy
  generalize mulP way a b = r at *
  cases xnan
  · cases ynan
    · have hpr : xs * ys < 281474976710656 := by
        have h1 := Nat.mul_le_mul (show xs ≤ 16777215 by omega) (show ys ≤ 16777215 by omega)
        omega
      cases xinf
      · cases yinf
        · have HR : Hid (roundP way (xn != yn) (xe + ye) (xs * ys) false = r) := Lib.hid (by rw [HM.out]; simp [mulN])
          clear HM
          go_enter Try.func35, Try.ntmps35
          go_wp2_with fail
          refine (open_at h HX).mono ?_
          rintro e W1 ⟨rfl, hB1⟩
          go_wp2_with fail
          refine (open_at h' HY).mono ?_
          rintro e W2 ⟨rfl, hB2⟩
          have hB2' := hB1.trans (hB2.mono hB1.size)
          have hz2 := hB2'.size
          clear hB1 hB2
          go_wp2_with fail
          refine (round_at (by first | rfl | simp) (Nat.lt_trans hpr (by decide)) (by omega) HR).mono ?_
          rintro e w' ⟨rfl, rfl⟩
          go_wp2
          go_ret
          exact ⟨rfl, (hB2'.alloc hz2 _).alloc (by simp; omega) _⟩
        · by_cases hz : xs = 0
          · subst hz
            have HR : Hid (r = 2143289344) := Lib.hid (by rw [HM.out]; simp [mulN])
            go_enter Try.func35, Try.ntmps35
            go_wp2_with fail
            refine (open_at h HX).mono ?_
            rintro e W1 ⟨rfl, hB1⟩
            go_wp2_with fail
            refine (open_at h' HY).mono ?_
            rintro e W2 ⟨rfl, hB2⟩
            have hB2' := hB1.trans (hB2.mono hB1.size)
            have hz2 := hB2'.size
            clear hB1 hB2
            go_wp2
            go_ret
            exact ⟨by rw [HR.out]; rfl, (hB2'.alloc hz2 _).alloc (by simp; omega) _⟩
          · have hz' : ((xs : Int) == 0) = false := by rw [beq_eq_false_iff_ne]; omega
            have HR : Hid (r = sgn (xn != yn) + 2139095040) := Lib.hid (by rw [HM.out]; simp [mulN, hz])
            go_enter Try.func35, Try.ntmps35
            go_wp2_with fail
            refine (open_at h HX).mono ?_
            rintro e W1 ⟨rfl, hB1⟩
            go_wp2_with fail
            refine (open_at h' HY).mono ?_
            rintro e W2 ⟨rfl, hB2⟩
            have hB2' := hB1.trans (hB2.mono hB1.size)
            have hz2 := hB2'.size
            clear hB1 hB2
            go_wp2_with fail
            refine (sign_any _ _).mono ?_
            rintro e w' ⟨rfl, rfl⟩
            go_wp2
            go_ret
            exact ⟨by rw [HR.out]; exact congrArg Ending.returned (congrArg (Value.int .u32) ((or_sign (xn != yn) (by decide) (by decide)).trans (by omega))), (hB2'.alloc hz2 _).alloc (by simp; omega) _⟩
      · cases yinf
        · by_cases hz : ys = 0
          · subst hz
            have HR : Hid (r = 2143289344) := Lib.hid (by rw [HM.out]; simp [mulN])
            go_enter Try.func35, Try.ntmps35
            go_wp2_with fail
            refine (open_at h HX).mono ?_
            rintro e W1 ⟨rfl, hB1⟩
            go_wp2_with fail
            refine (open_at h' HY).mono ?_
            rintro e W2 ⟨rfl, hB2⟩
            have hB2' := hB1.trans (hB2.mono hB1.size)
            have hz2 := hB2'.size
            clear hB1 hB2
            go_wp2
            go_ret
            exact ⟨by rw [HR.out]; rfl, (hB2'.alloc hz2 _).alloc (by simp; omega) _⟩
          · have hz' : ((ys : Int) == 0) = false := by rw [beq_eq_false_iff_ne]; omega
            have HR : Hid (r = sgn (xn != yn) + 2139095040) := Lib.hid (by rw [HM.out]; simp [mulN, hz])
            go_enter Try.func35, Try.ntmps35
            go_wp2_with fail
            refine (open_at h HX).mono ?_
            rintro e W1 ⟨rfl, hB1⟩
            go_wp2_with fail
            refine (open_at h' HY).mono ?_
            rintro e W2 ⟨rfl, hB2⟩
            have hB2' := hB1.trans (hB2.mono hB1.size)
            have hz2 := hB2'.size
            clear hB1 hB2
            go_wp2_with fail
            refine (sign_any _ _).mono ?_
            rintro e w' ⟨rfl, rfl⟩
            go_wp2
            go_ret
            exact ⟨by rw [HR.out]; exact congrArg Ending.returned (congrArg (Value.int .u32) ((or_sign (xn != yn) (by decide) (by decide)).trans (by omega))), (hB2'.alloc hz2 _).alloc (by simp; omega) _⟩
        · have HR : Hid (r = sgn (xn != yn) + 2139095040) := Lib.hid (by rw [HM.out]; simp [mulN])
          go_enter Try.func35, Try.ntmps35
          go_wp2_with fail
          refine (open_at h HX).mono ?_
          rintro e W1 ⟨rfl, hB1⟩
          go_wp2_with fail
          refine (open_at h' HY).mono ?_
          rintro e W2 ⟨rfl, hB2⟩
          have hB2' := hB1.trans (hB2.mono hB1.size)
          have hz2 := hB2'.size
          clear hB1 hB2
          go_wp2_with fail
          refine (sign_any _ _).mono ?_
          rintro e w' ⟨rfl, rfl⟩
          go_wp2
          go_ret
          exact ⟨by rw [HR.out]; exact congrArg Ending.returned (congrArg (Value.int .u32) ((or_sign (xn != yn) (by decide) (by decide)).trans (by omega))), (hB2'.alloc hz2 _).alloc (by simp; omega) _⟩
    · have HR : Hid (r = 2143289344) := Lib.hid (by rw [HM.out]; simp [mulN])
      go_enter Try.func35, Try.ntmps35
      go_wp2_with fail
      refine (open_at h HX).mono ?_
      rintro e W1 ⟨rfl, hB1⟩
      go_wp2_with fail
      refine (open_at h' HY).mono ?_
      rintro e W2 ⟨rfl, hB2⟩
      have hB2' := hB1.trans (hB2.mono hB1.size)
      have hz2 := hB2'.size
      clear hB1 hB2
      go_wp2
      go_ret
      exact ⟨by rw [HR.out]; rfl, (hB2'.alloc hz2 _).alloc (by simp; omega) _⟩
  · have HR : Hid (r = 2143289344) := Lib.hid (by rw [HM.out]; simp [mulN])
    go_enter Try.func35, Try.ntmps35
    go_wp2_with fail
    refine (open_at h HX).mono ?_
    rintro e W1 ⟨rfl, hB1⟩
    go_wp2_with fail
    refine (open_at h' HY).mono ?_
    rintro e W2 ⟨rfl, hB2⟩
    have hB2' := hB1.trans (hB2.mono hB1.size)
    have hz2 := hB2'.size
    clear hB1 hB2
    go_wp2
    go_ret
    exact ⟨by rw [HR.out]; rfl, (hB2'.alloc hz2 _).alloc (by simp; omega) _⟩
end Go.Proofs.Ytanccobllehnaaa
