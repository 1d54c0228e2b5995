/- The contract of soft.DivBy. -/
import Derived.Test.YtkdlkjoeoahfpaaSoftF
import Derived.Deep.CutRange
import Derived.Deep.RegionHeld3
import Derived.BigQuiet
import Derived.Deep.QuietTactic
namespace Go.Proofs.Ytkdlkjoeoahfpaa
open Go.RowKit

theorem open_class {a : Nat} {xn xnan xinf : Bool} {xe : Int} {xs : Nat} (hx : openN a = ⟨xn, xnan, xinf, xe, xs⟩) :
    (xnan = true ∧ xinf = false ∧ xs = 0) ∨ (xnan = false ∧ xinf = true ∧ xs = 0) ∨ (xnan = false ∧ xinf = false ∧ xs = 0) ∨ (xnan = false ∧ xinf = false ∧ ¬ xs = 0) := by
  unfold openN at hx
  split at hx
  · injection hx with h1 h2 h3 h4 h5
    subst h2 h3 h5
    by_cases hf : a % 8388608 = 0
    · simp [hf]
    · simp [hf]
  · split at hx
    · injection hx with h1 h2 h3 h4 h5
      subst h2 h3 h5
      by_cases hf : a % 8388608 = 0
      · simp [hf]
      · simp [hf]
    · injection hx with h1 h2 h3 h4 h5
      subst h2 h3 h5
      simp
def fk (s : Nat) : Nat := 24 - blen s
def fm (s : Nat) : Nat := s * two (24 - blen s)
def divN (way : Int) (x y : Num) : Nat :=
  if (x.nan || y.nan || (x.inf && y.inf) || ((!x.inf && x.sig == 0) && (!y.inf && y.sig == 0))) = true then 2143289344
  else if (x.inf || (!y.inf && y.sig == 0)) = true then sgn (x.neg != y.neg) + 2139095040
  else if (y.inf || (!x.inf && x.sig == 0)) = true then sgn (x.neg != y.neg)
  else roundP way (x.neg != y.neg) ((x.exp - fk x.sig) - (y.exp - fk y.sig) - 38) (fm x.sig * 274877906944 / fm y.sig) (decide (fm x.sig * 274877906944 % fm y.sig ≠ 0))
def divP (way : Int) (a b : Nat) : Nat := divN way (openN a) (openN b)

set_option maxRecDepth 100000 in
set_option maxHeartbeats 4000000 in
theorem div_any (way : Int) (a b : Nat) (w : World) (h : Hid (a < 4294967296)) (h' : Hid (b < 4294967296)) :
    Calls Try.prog 16 #[.int .i64 way, .int .u32 (a : Int), .int .u32 (b : Int)] w fun e w' => e = .returned (.int .u32 (divP way a b : Int)) ∧ Below w.heap.size w w' := by
  obtain ⟨xn, xnan, xinf, xe, xs, hx⟩ : ∃ xn xnan xinf xe xs, openN a = ⟨xn, xnan, xinf, xe, xs⟩ := ⟨_, _, _, _, _, rfl⟩
  obtain ⟨yn, ynan, yinf, ye, ys, hy⟩ : ∃ yn ynan yinf ye ys, openN b = ⟨yn, ynan, yinf, ye, ys⟩ := ⟨_, _, _, _, _, rfl⟩
  obtain ⟨hx1, hx2, hx3⟩ := openN_ok hx
  obtain ⟨hy1, hy2, hy3⟩ := openN_ok hy
  have hxc := open_class hx
  have hyc := open_class hy
  have HM : Hid (divP way a b = divN way ⟨xn, xnan, xinf, xe, xs⟩ ⟨yn, ynan, yinf, ye, ys⟩) := Lib.hid (by unfold divP; rw [hx, hy])
  have HX := Lib.hid hx
  have HY := Lib.hid hy
  clear hx hy
  generalize divP way a b = r at *
  rcases hxc with hxc | hxc | hxc | hxc <;> rcases hyc with hyc | hyc | hyc | hyc
  · obtain ⟨rfl, rfl, rfl⟩ : xnan = true ∧ xinf = false ∧ xs = 0 := hxc
    obtain ⟨rfl, rfl, rfl⟩ : ynan = true ∧ yinf = false ∧ ys = 0 := hyc
    have HR : Hid (r = 2143289344) := Lib.hid (by rw [HM.out]; simp [divN])
    go_enter Try.func16, Try.ntmps16
    go_wp2_with fail
    refine (open_at h HX).mono ?_
    rintro e W1 ⟨rfl, hB1⟩
    go_wp2_with fail
    refine (open_at h' HY).mono ?_
    rintro e W2 ⟨rfl, hB2⟩
    have hB2' := hB1.trans (hB2.mono hB1.size)
    have hz2 := hB2'.size
    clear hB1 hB2
    go_wp2
    go_quiet (fail)
    go_wp2
    go_ret
    exact ⟨by rw [HR.out]; rfl, below_drewN ((hB2'.alloc hz2 _).alloc (by simp; omega) _) _⟩
  · obtain ⟨rfl, rfl, rfl⟩ : xnan = true ∧ xinf = false ∧ xs = 0 := hxc
    obtain ⟨rfl, rfl, rfl⟩ : ynan = false ∧ yinf = true ∧ ys = 0 := hyc
    have HR : Hid (r = 2143289344) := Lib.hid (by rw [HM.out]; simp [divN])
    go_enter Try.func16, Try.ntmps16
    go_wp2_with fail
    refine (open_at h HX).mono ?_
    rintro e W1 ⟨rfl, hB1⟩
    go_wp2_with fail
    refine (open_at h' HY).mono ?_
    rintro e W2 ⟨rfl, hB2⟩
    have hB2' := hB1.trans (hB2.mono hB1.size)
    have hz2 := hB2'.size
    clear hB1 hB2
    go_wp2
    go_quiet (fail)
    go_wp2
    go_ret
    exact ⟨by rw [HR.out]; rfl, below_drewN ((hB2'.alloc hz2 _).alloc (by simp; omega) _) _⟩
  · obtain ⟨rfl, rfl, rfl⟩ : xnan = true ∧ xinf = false ∧ xs = 0 := hxc
    obtain ⟨rfl, rfl, rfl⟩ : ynan = false ∧ yinf = false ∧ ys = 0 := hyc
    have HR : Hid (r = 2143289344) := Lib.hid (by rw [HM.out]; simp [divN])
    go_enter Try.func16, Try.ntmps16
    go_wp2_with fail
    refine (open_at h HX).mono ?_
    rintro e W1 ⟨rfl, hB1⟩
    go_wp2_with fail
    refine (open_at h' HY).mono ?_
    rintro e W2 ⟨rfl, hB2⟩
    have hB2' := hB1.trans (hB2.mono hB1.size)
    have hz2 := hB2'.size
    clear hB1 hB2
    go_wp2
    go_quiet (fail)
    go_wp2
    go_ret
    exact ⟨by rw [HR.out]; rfl, below_drewN ((hB2'.alloc hz2 _).alloc (by simp; omega) _) _⟩
  · obtain ⟨rfl, rfl, rfl⟩ : xnan = true ∧ xinf = false ∧ xs = 0 := hxc
    obtain ⟨rfl, rfl, hzy⟩ : ynan = false ∧ yinf = false ∧ ¬ ys = 0 := hyc
    have hby : ((ys : Int) == 0) = false := by rw [beq_eq_false_iff_ne]; omega
    have HR : Hid (r = 2143289344) := Lib.hid (by rw [HM.out]; simp [divN])
    go_enter Try.func16, Try.ntmps16
    go_wp2_with fail
    refine (open_at h HX).mono ?_
    rintro e W1 ⟨rfl, hB1⟩
    go_wp2_with fail
    refine (open_at h' HY).mono ?_
    rintro e W2 ⟨rfl, hB2⟩
    have hB2' := hB1.trans (hB2.mono hB1.size)
    have hz2 := hB2'.size
    clear hB1 hB2
    go_wp2
    go_quiet (fail)
    go_wp2
    go_ret
    exact ⟨by rw [HR.out]; rfl, below_drewN ((hB2'.alloc hz2 _).alloc (by simp; omega) _) _⟩
  · obtain ⟨rfl, rfl, rfl⟩ : xnan = false ∧ xinf = true ∧ xs = 0 := hxc
    obtain ⟨rfl, rfl, rfl⟩ : ynan = true ∧ yinf = false ∧ ys = 0 := hyc
    have HR : Hid (r = 2143289344) := Lib.hid (by rw [HM.out]; simp [divN])
    go_enter Try.func16, Try.ntmps16
    go_wp2_with fail
    refine (open_at h HX).mono ?_
    rintro e W1 ⟨rfl, hB1⟩
    go_wp2_with fail
    refine (open_at h' HY).mono ?_
    rintro e W2 ⟨rfl, hB2⟩
    have hB2' := hB1.trans (hB2.mono hB1.size)
    have hz2 := hB2'.size
    clear hB1 hB2
    go_wp2
    go_quiet (fail)
    go_wp2
    go_ret
    exact ⟨by rw [HR.out]; rfl, below_drewN ((hB2'.alloc hz2 _).alloc (by simp; omega) _) _⟩
  · obtain ⟨rfl, rfl, rfl⟩ : xnan = false ∧ xinf = true ∧ xs = 0 := hxc
    obtain ⟨rfl, rfl, rfl⟩ : ynan = false ∧ yinf = true ∧ ys = 0 := hyc
    have HR : Hid (r = 2143289344) := Lib.hid (by rw [HM.out]; simp [divN])
    go_enter Try.func16, Try.ntmps16
    go_wp2_with fail
    refine (open_at h HX).mono ?_
    rintro e W1 ⟨rfl, hB1⟩
    go_wp2_with fail
    refine (open_at h' HY).mono ?_
    rintro e W2 ⟨rfl, hB2⟩
    have hB2' := hB1.trans (hB2.mono hB1.size)
    have hz2 := hB2'.size
    clear hB1 hB2
    go_wp2
    go_quiet (fail)
    go_wp2
    go_ret
    exact ⟨by rw [HR.out]; rfl, below_drewN ((hB2'.alloc hz2 _).alloc (by simp; omega) _) _⟩
  · obtain ⟨rfl, rfl, rfl⟩ : xnan = false ∧ xinf = true ∧ xs = 0 := hxc
    obtain ⟨rfl, rfl, rfl⟩ : ynan = false ∧ yinf = false ∧ ys = 0 := hyc
    have HR : Hid (r = sgn (xn != yn) + 2139095040) := Lib.hid (by rw [HM.out]; simp [divN])
    go_enter Try.func16, Try.ntmps16
    go_wp2_with fail
    refine (open_at h HX).mono ?_
    rintro e W1 ⟨rfl, hB1⟩
    go_wp2_with fail
    refine (open_at h' HY).mono ?_
    rintro e W2 ⟨rfl, hB2⟩
    have hB2' := hB1.trans (hB2.mono hB1.size)
    have hz2 := hB2'.size
    clear hB1 hB2
    go_wp2
    go_quiet (fail)
    go_wp2_with fail
    refine (sign_any _ _).mono ?_
    rintro e w' ⟨rfl, rfl⟩
    go_wp2
    go_ret
    exact ⟨by rw [HR.out]; exact congrArg Ending.returned (congrArg (Value.int .u32) ((or_sign (xn != yn) (by decide) (by decide)).trans (by omega))), below_drewN ((hB2'.alloc hz2 _).alloc (by simp; omega) _) _⟩
  · obtain ⟨rfl, rfl, rfl⟩ : xnan = false ∧ xinf = true ∧ xs = 0 := hxc
    obtain ⟨rfl, rfl, hzy⟩ : ynan = false ∧ yinf = false ∧ ¬ ys = 0 := hyc
    have hby : ((ys : Int) == 0) = false := by rw [beq_eq_false_iff_ne]; omega
    have HR : Hid (r = sgn (xn != yn) + 2139095040) := Lib.hid (by rw [HM.out]; simp [divN])
    go_enter Try.func16, Try.ntmps16
    go_wp2_with fail
    refine (open_at h HX).mono ?_
    rintro e W1 ⟨rfl, hB1⟩
    go_wp2_with fail
    refine (open_at h' HY).mono ?_
    rintro e W2 ⟨rfl, hB2⟩
    have hB2' := hB1.trans (hB2.mono hB1.size)
    have hz2 := hB2'.size
    clear hB1 hB2
    go_wp2
    go_quiet (fail)
    go_wp2_with fail
    refine (sign_any _ _).mono ?_
    rintro e w' ⟨rfl, rfl⟩
    go_wp2
    go_ret
    exact ⟨by rw [HR.out]; exact congrArg Ending.returned (congrArg (Value.int .u32) ((or_sign (xn != yn) (by decide) (by decide)).trans (by omega))), below_drewN ((hB2'.alloc hz2 _).alloc (by simp; omega) _) _⟩
  · obtain ⟨rfl, rfl, rfl⟩ : xnan = false ∧ xinf = false ∧ xs = 0 := hxc
    obtain ⟨rfl, rfl, rfl⟩ : ynan = true ∧ yinf = false ∧ ys = 0 := hyc
    have HR : Hid (r = 2143289344) := Lib.hid (by rw [HM.out]; simp [divN])
    go_enter Try.func16, Try.ntmps16
    go_wp2_with fail
    refine (open_at h HX).mono ?_
    rintro e W1 ⟨rfl, hB1⟩
    go_wp2_with fail
    refine (open_at h' HY).mono ?_
    rintro e W2 ⟨rfl, hB2⟩
    have hB2' := hB1.trans (hB2.mono hB1.size)
    have hz2 := hB2'.size
    clear hB1 hB2
    go_wp2
    go_quiet (fail)
    go_wp2
    go_ret
    exact ⟨by rw [HR.out]; rfl, below_drewN ((hB2'.alloc hz2 _).alloc (by simp; omega) _) _⟩
  · obtain ⟨rfl, rfl, rfl⟩ : xnan = false ∧ xinf = false ∧ xs = 0 := hxc
    obtain ⟨rfl, rfl, rfl⟩ : ynan = false ∧ yinf = true ∧ ys = 0 := hyc
    have HR : Hid (r = sgn (xn != yn)) := Lib.hid (by rw [HM.out]; simp [divN])
    go_enter Try.func16, Try.ntmps16
    go_wp2_with fail
    refine (open_at h HX).mono ?_
    rintro e W1 ⟨rfl, hB1⟩
    go_wp2_with fail
    refine (open_at h' HY).mono ?_
    rintro e W2 ⟨rfl, hB2⟩
    have hB2' := hB1.trans (hB2.mono hB1.size)
    have hz2 := hB2'.size
    clear hB1 hB2
    go_wp2
    go_quiet (fail)
    go_wp2_with fail
    refine (sign_any _ _).mono ?_
    rintro e w' ⟨rfl, rfl⟩
    go_wp2
    go_ret
    exact ⟨by rw [HR.out]; rfl, below_drewN ((hB2'.alloc hz2 _).alloc (by simp; omega) _) _⟩
  · obtain ⟨rfl, rfl, rfl⟩ : xnan = false ∧ xinf = false ∧ xs = 0 := hxc
    obtain ⟨rfl, rfl, rfl⟩ : ynan = false ∧ yinf = false ∧ ys = 0 := hyc
    have HR : Hid (r = 2143289344) := Lib.hid (by rw [HM.out]; simp [divN])
    go_enter Try.func16, Try.ntmps16
    go_wp2_with fail
    refine (open_at h HX).mono ?_
    rintro e W1 ⟨rfl, hB1⟩
    go_wp2_with fail
    refine (open_at h' HY).mono ?_
    rintro e W2 ⟨rfl, hB2⟩
    have hB2' := hB1.trans (hB2.mono hB1.size)
    have hz2 := hB2'.size
    clear hB1 hB2
    go_wp2
    go_quiet (fail)
    go_wp2
    go_ret
    exact ⟨by rw [HR.out]; rfl, below_drewN ((hB2'.alloc hz2 _).alloc (by simp; omega) _) _⟩
  · obtain ⟨rfl, rfl, rfl⟩ : xnan = false ∧ xinf = false ∧ xs = 0 := hxc
    obtain ⟨rfl, rfl, hzy⟩ : ynan = false ∧ yinf = false ∧ ¬ ys = 0 := hyc
    have hby : ((ys : Int) == 0) = false := by rw [beq_eq_false_iff_ne]; omega
    have HR : Hid (r = sgn (xn != yn)) := Lib.hid (by rw [HM.out]; simp [divN, hzy])
    go_enter Try.func16, Try.ntmps16
    go_wp2_with fail
    refine (open_at h HX).mono ?_
    rintro e W1 ⟨rfl, hB1⟩
    go_wp2_with fail
    refine (open_at h' HY).mono ?_
    rintro e W2 ⟨rfl, hB2⟩
    have hB2' := hB1.trans (hB2.mono hB1.size)
    have hz2 := hB2'.size
    clear hB1 hB2
    go_wp2
    go_quiet (fail)
    go_wp2_with fail
    refine (sign_any _ _).mono ?_
    rintro e w' ⟨rfl, rfl⟩
    go_wp2
    go_ret
    exact ⟨by rw [HR.out]; rfl, below_drewN ((hB2'.alloc hz2 _).alloc (by simp; omega) _) _⟩
  · obtain ⟨rfl, rfl, hzx⟩ : xnan = false ∧ xinf = false ∧ ¬ xs = 0 := hxc
    have hbx : ((xs : Int) == 0) = false := by rw [beq_eq_false_iff_ne]; omega
    obtain ⟨rfl, rfl, rfl⟩ : ynan = true ∧ yinf = false ∧ ys = 0 := hyc
    have HR : Hid (r = 2143289344) := Lib.hid (by rw [HM.out]; simp [divN])
    go_enter Try.func16, Try.ntmps16
    go_wp2_with fail
    refine (open_at h HX).mono ?_
    rintro e W1 ⟨rfl, hB1⟩
    go_wp2_with fail
    refine (open_at h' HY).mono ?_
    rintro e W2 ⟨rfl, hB2⟩
    have hB2' := hB1.trans (hB2.mono hB1.size)
    have hz2 := hB2'.size
    clear hB1 hB2
    go_wp2
    go_quiet (fail)
    go_wp2
    go_ret
    exact ⟨by rw [HR.out]; rfl, below_drewN ((hB2'.alloc hz2 _).alloc (by simp; omega) _) _⟩
  · obtain ⟨rfl, rfl, hzx⟩ : xnan = false ∧ xinf = false ∧ ¬ xs = 0 := hxc
    have hbx : ((xs : Int) == 0) = false := by rw [beq_eq_false_iff_ne]; omega
    obtain ⟨rfl, rfl, rfl⟩ : ynan = false ∧ yinf = true ∧ ys = 0 := hyc
    have HR : Hid (r = sgn (xn != yn)) := Lib.hid (by rw [HM.out]; simp [divN])
    go_enter Try.func16, Try.ntmps16
    go_wp2_with fail
    refine (open_at h HX).mono ?_
    rintro e W1 ⟨rfl, hB1⟩
    go_wp2_with fail
    refine (open_at h' HY).mono ?_
    rintro e W2 ⟨rfl, hB2⟩
    have hB2' := hB1.trans (hB2.mono hB1.size)
    have hz2 := hB2'.size
    clear hB1 hB2
    go_wp2
    go_quiet (fail)
    go_wp2_with fail
    refine (sign_any _ _).mono ?_
    rintro e w' ⟨rfl, rfl⟩
    go_wp2
    go_ret
    exact ⟨by rw [HR.out]; rfl, below_drewN ((hB2'.alloc hz2 _).alloc (by simp; omega) _) _⟩
  · obtain ⟨rfl, rfl, hzx⟩ : xnan = false ∧ xinf = false ∧ ¬ xs = 0 := hxc
    have hbx : ((xs : Int) == 0) = false := by rw [beq_eq_false_iff_ne]; omega
    obtain ⟨rfl, rfl, rfl⟩ : ynan = false ∧ yinf = false ∧ ys = 0 := hyc
    have HR : Hid (r = sgn (xn != yn) + 2139095040) := Lib.hid (by rw [HM.out]; simp [divN, hzx])
    go_enter Try.func16, Try.ntmps16
    go_wp2_with fail
    refine (open_at h HX).mono ?_
    rintro e W1 ⟨rfl, hB1⟩
    go_wp2_with fail
    refine (open_at h' HY).mono ?_
    rintro e W2 ⟨rfl, hB2⟩
    have hB2' := hB1.trans (hB2.mono hB1.size)
    have hz2 := hB2'.size
    clear hB1 hB2
    go_wp2
    go_quiet (fail)
    go_wp2_with fail
    refine (sign_any _ _).mono ?_
    rintro e w' ⟨rfl, rfl⟩
    go_wp2
    go_ret
    exact ⟨by rw [HR.out]; exact congrArg Ending.returned (congrArg (Value.int .u32) ((or_sign (xn != yn) (by decide) (by decide)).trans (by omega))), below_drewN ((hB2'.alloc hz2 _).alloc (by simp; omega) _) _⟩
  · obtain ⟨rfl, rfl, hzx⟩ : xnan = false ∧ xinf = false ∧ ¬ xs = 0 := hxc
    have hbx : ((xs : Int) == 0) = false := by rw [beq_eq_false_iff_ne]; omega
    obtain ⟨rfl, rfl, hzy⟩ : ynan = false ∧ yinf = false ∧ ¬ ys = 0 := hyc
    have hby : ((ys : Int) == 0) = false := by rw [beq_eq_false_iff_ne]; omega
    have HR : Hid (roundP way (xn != yn) ((xe - fk xs) - (ye - fk ys) - 38) (fm xs * 274877906944 / fm ys) (decide (fm xs * 274877906944 % fm ys ≠ 0)) = r) := Lib.hid (by rw [HM.out]; simp [divN, hzx, hzy])
    go_enter Try.func16, Try.ntmps16
    go_wp2_with fail
    refine (open_at h HX).mono ?_
    rintro e W1 ⟨rfl, hB1⟩
    go_wp2_with fail
    refine (open_at h' HY).mono ?_
    rintro e W2 ⟨rfl, hB2⟩
    have hB2' := hB1.trans (hB2.mono hB1.size)
    have hz2 := hB2'.size
    clear hB1 hB2 HM HX HY
    go_wp2
    go_quiet (fail)
    go_wp2_with fail
    have hB3 : Below w.heap.size w (((W2.alloc (.cells #[.bool xn, .bool false, .bool false, .int .i64 xe, .int .u64 (xs : Int)] 49)).alloc (.cells #[.bool yn, .bool false, .bool false, .int .i64 ye, .int .u64 (ys : Int)] 49)).drewN nq) := below_drewN ((hB2'.alloc hz2 _).alloc (by simp; omega) _) _
    have hk7 : Blk (((W2.alloc (.cells #[.bool xn, .bool false, .bool false, .int .i64 xe, .int .u64 (xs : Int)] 49)).alloc (.cells #[.bool yn, .bool false, .bool false, .int .i64 ye, .int .u64 (ys : Int)] 49)).drewN nq) W2.heap.size 49 #[.bool xn, .bool false, .bool false, .int .i64 xe, .int .u64 (xs : Int)] := ((Blk.new W2 _ _).alloc _).drewN _
    have hk8 : Blk (((W2.alloc (.cells #[.bool xn, .bool false, .bool false, .int .i64 xe, .int .u64 (xs : Int)] 49)).alloc (.cells #[.bool yn, .bool false, .bool false, .int .i64 ye, .int .u64 (ys : Int)] 49)).drewN nq) (W2.heap.size + 1) 49 #[.bool yn, .bool false, .bool false, .int .i64 ye, .int .u64 (ys : Int)] := by
      have := (Blk.new (W2.alloc (.cells #[.bool xn, .bool false, .bool false, .int .i64 xe, .int .u64 (xs : Int)] 49)) 49 #[.bool yn, .bool false, .bool false, .int .i64 ye, .int .u64 (ys : Int)]).drewN nq
      simpa using this
    generalize ((W2.alloc (.cells #[.bool xn, .bool false, .bool false, .int .i64 xe, .int .u64 (xs : Int)] 49)).alloc (.cells #[.bool yn, .bool false, .bool false, .int .i64 ye, .int .u64 (ys : Int)] 49)).drewN nq = W3 at *
    have hz7 : W2.heap.size + 1 < W3.heap.size := hk8.lt
    go_cut [] from 77 to 80 (fun wx => Blk wx W2.heap.size 49 #[.bool xn, .bool false, .bool false, .int .i64 (xe - (fk xs : Nat)), .int .u64 ((fm xs : Nat) : Int)] ∧ Blk wx (W2.heap.size + 1) 49 #[.bool yn, .bool false, .bool false, .int .i64 (ye - (fk ys : Nat)), .int .u64 ((fm ys : Nat) : Int)] ∧ Below w.heap.size w wx)
    case first =>
      clear HR
      obtain ⟨x0, x1, x2, x3, x4⟩ := blk5 hk7
      obtain ⟨y0, y1, y2, y3, y4⟩ := blk5 hk8
      have hst : True := trivial
      go_region_with (
        go_at_call 57
        first
        | (clear hst
           refine (full_any _ (Nat.pos_of_ne_zero hzx) hx1 ⟨hx2, hx3⟩ (Lib.hid rfl) (Lib.hid rfl)).mono ?_
           rintro e w4 ⟨rfl, hB4⟩
           have hk7 := hk7.drew.below hB4 (by show _ < W3.heap.size; omega)
           have hk8 := hk8.drew.below hB4 (by show _ < W3.heap.size; omega)
           have hz4 : W3.heap.size ≤ w4.heap.size := hB4.size
           obtain ⟨x0, x1, x2, x3, x4⟩ := blk5 hk7
           obtain ⟨y0, y1, y2, y3, y4⟩ := blk5 hk8)
        | (refine (full_any _ (Nat.pos_of_ne_zero hzy) hy1 ⟨hy2, hy3⟩ (Lib.hid rfl) (Lib.hid rfl)).mono ?_
           rintro e w5 ⟨rfl, hB5⟩
           have hk7 := hk7.below hB5 (by omega)
           have hk8 := hk8.below hB5 (by omega)
           have z0 := hk7.frozen 0
           have z1 := hk7.frozen 1
           have z2 := hk7.frozen 2
           have z3 := hk7.frozen 3
           have z4 := hk7.frozen 4
           have v0 := hk8.frozen 0
           have v1 := hk8.frozen 1
           have v2 := hk8.frozen 2
           have v3 := hk8.frozen 3
           have v4 := hk8.frozen 4
           have hz5 := hk8.lt
           have hz6 : W2.heap.size < w5.heap.size := by omega
           obtain ⟨x0, x1, x2, x3, x4⟩ := blk5 hk7
           obtain ⟨y0, y1, y2, y3, y4⟩ := blk5 hk8))
      all_goals
        go_wp2_with fail
        go_meet
        case rel =>
          have hz0 := hB5.size
          have hB := (hB3.drew.trans (hB4.mono (by show w.heap.size ≤ W3.heap.size; omega))).trans (hB5.mono (by omega))
          refine ⟨?_, ?_, ?_⟩
          · exact (((((hk7.five _ _ _ _ _).far (by simp) _).far (by simp) _).far (by simp) _).far (by simp) _).far (by simp) _
          · exact (((((hk8.far (by simp) _).far (by simp) _).far (by simp) _).far (by simp) _).far (by simp) _).five _ _ _ _ _
          · exact (((((((((hB.setCell (by simp; omega) _).setCell (by simp; omega) _).setCell (by simp; omega) _).setCell (by simp; omega) _).setCell (by simp; omega) _).setCell (by simp; omega) _).setCell (by simp; omega) _).setCell (by simp; omega) _).setCell (by simp; omega) _).setCell (by simp; omega) _
    case rest =>
      clear hk7 hk8 hB3 hz7 hB2' hz2
      obtain ⟨hk7, hk8, hB3⟩ := hcut
      obtain ⟨f1, f2, -⟩ := full_sig (Nat.pos_of_ne_zero hzx) hx1
      obtain ⟨g1, g2, -⟩ := full_sig (Nat.pos_of_ne_zero hzy) hy1
      have k1 : fk xs ≤ 24 := Nat.sub_le _ _
      have k2 : fk ys ≤ 24 := Nat.sub_le _ _
      have f1 : 8388608 ≤ fm xs := f1
      have f2 : fm xs < 16777216 := f2
      have g1 : 8388608 ≤ fm ys := g1
      have g2 : fm ys < 16777216 := g2
      obtain ⟨x0, x1, x2, x3, x4⟩ := blk5 hk7
      obtain ⟨y0, y1, y2, y3, y4⟩ := blk5 hk8
      clear hk7 hk8
      generalize fm xs = P at *
      generalize fm ys = D at *
      generalize fk xs = k at *
      generalize fk ys = l at *
      have hd0 : ((D : Int) == 0) = false := by rw [beq_eq_false_iff_ne]; omega
      go_wp2
      go_quiet (fail)
      go_wp2_with fail
      have hmore : ((P : Int) * 274877906944 % (D : Int) != 0) = decide (P * 274877906944 % D ≠ 0) := by
        have e : (P : Int) * 274877906944 % (D : Int) = ((P * 274877906944 % D : Nat) : Int) := by simp
        rw [e]
        by_cases hh : P * 274877906944 % D = 0
        · rw [hh]; rfl
        · rw [decide_eq_true hh, bne_iff_ne]; omega
      rw [hmore]
      refine (round_at (s := P * 274877906944 / D) (by simp) (Nat.lt_of_le_of_lt (Nat.div_le_self _ _) (by omega)) (by omega) HR).mono ?_
      rintro e w' ⟨rfl, rfl⟩
      go_wp2
      go_ret
      exact ⟨rfl, below_drewN hB3 _⟩
end Go.Proofs.Ytkdlkjoeoahfpaa
