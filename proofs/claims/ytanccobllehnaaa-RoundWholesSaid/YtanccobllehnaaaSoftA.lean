/- The contract of soft.AddBy. -/
import Derived.Test.YtanccobllehnaaaSoftX
import Derived.Deep.CutRange
import Derived.Deep.CutBlock
import Derived.BigQuiet
import Derived.Deep.QuietTactic
namespace Go.Proofs.Ytanccobllehnaaa
open Go.RowKit

/-- two numbers, the one of the greater exponent ahead -/
def coreN (way : Int) (x y : Num) : Nat :=
  let d := (x.exp - y.exp).toNat
  if d ≤ 38 then
    let high := x.sig * two d
    if x.neg = y.neg then roundP way x.neg y.exp (high + y.sig) false
    else if high = y.sig then sgn (way == 2)
    else if y.sig < high then roundP way x.neg y.exp (high - y.sig) false
    else roundP way y.neg y.exp (y.sig - high) false
  else
    let high := x.sig * 274877906944
    let low := y.sig / two (d - 38)
    if x.neg = y.neg then roundP way x.neg (x.exp - 38) (high + low) (decide (y.sig % two (d - 38) ≠ 0))
    else if y.sig % two (d - 38) ≠ 0 then roundP way x.neg (x.exp - 38) (high - low - 1) true
    else roundP way x.neg (x.exp - 38) (high - low) false
def addN (way : Int) (a b : Nat) (x y : Num) : Nat :=
  if (x.nan || y.nan || (x.inf && y.inf && x.neg != y.neg)) = true then 2143289344
  else if x.inf = true then a else if y.inf = true then b
  else if x.sig = 0 ∧ y.sig = 0 then (if a = b then a else sgn (way == 2))
  else if x.exp < y.exp then coreN way y x else coreN way x y
def addP (way : Int) (a b : Nat) : Nat := addN way a b (openN a) (openN b)
theorem open_norm {a : Nat} {xn xnan xinf : Bool} {xe : Int} {xs : Nat} (hx : openN a = ⟨xn, xnan, xinf, xe, xs⟩) (hnan : xnan = false) (hinf : xinf = false) (h : -149 < xe) : 8388608 ≤ xs := by
  unfold openN at hx
  split at hx
  · injection hx with h1 h2 h3 h4 h5
    subst h2 h3
    by_cases hf : a % 8388608 = 0
    · simp [hf] at hinf
    · simp [hf] at hnan
  · split at hx
    · injection hx with h1 h2 h3 h4 h5; omega
    · injection hx with h1 h2 h3 h4 h5; omega

theorem two_min {y k : Nat} (h : y < 16777216) : y / two (min k 64) = y / two k ∧ (y / two k * two (min k 64) = y ↔ y % two k = 0) := by
  by_cases hk : k ≤ 64
  · rw [Nat.min_eq_left hk]
    have h1 := Nat.div_add_mod y (two k)
    rw [Nat.mul_comm] at h1
    exact ⟨rfl, by omega⟩
  · rw [Nat.min_eq_right (by omega)]
    have h2 := two_le (show 64 ≤ k by omega)
    rw [two_64] at h2
    have e1 : y / two k = 0 := Nat.div_eq_of_lt (by omega)
    have e2 : y / two 64 = 0 := Nat.div_eq_of_lt (by rw [two_64]; omega)
    have e3 : y % two k = y := Nat.mod_eq_of_lt (by omega)
    rw [e1, e2, e3]
    omega
theorem shr_low {y k : Nat} (h : y < 16777216) : (y : Int) / 2 ^ min k 64 = ((y / two k : Nat) : Int) := by
  rw [quo_cast, (two_min h).1]
theorem shr_lost {y k : Nat} (h : y < 16777216) : (IntKind.u64.wrap (((y / two k : Nat) : Int) * 2 ^ min k 64) != (y : Int)) = decide (y % two k ≠ 0) := by
  have h1 : y / two k * two (min k 64) ≤ y := by
    rw [← (two_min (k := k) h).1]
    exact Nat.div_mul_le_self y _
  rw [two_cast, ← Int.natCast_mul, wrap64_nat (by omega)]
  have h2 := (two_min (k := k) h).2
  by_cases hh : y % two k = 0
  · rw [decide_eq_false (by simpa using hh)]
    rw [bne_eq_false_iff_eq]
    have := h2.2 hh
    omega
  · rw [decide_eq_true (by simpa using hh)]
    rw [bne_iff_ne]
    intro e
    exact hh (h2.1 (by omega))
set_option maxRecDepth 100000 in
set_option maxHeartbeats 4000000 in
theorem add_any (way : Int) (a b : Nat) (w : World) (h : Hid (a < 4294967296)) (h' : Hid (b < 4294967296)) :
    Calls Try.prog 39 #[.int .i64 way, .int .u32 (a : Int), .int .u32 (b : Int)] w fun e w' => e = .returned (.int .u32 (addP way a b : Int)) ∧ Below w.heap.size w w' := by
  obtain ⟨xn, xnan, xinf, xe, xs, hx⟩ : ∃ xn xnan xinf xe xs, openN a = ⟨xn, xnan, xinf, xe, xs⟩ := ⟨_, _, _, _, _, rfl⟩
  obtain ⟨yn, ynan, yinf, ye, ys, hy⟩ : ∃ yn ynan yinf ye ys, openN b = ⟨yn, ynan, yinf, ye, ys⟩ := ⟨_, _, _, _, _, rfl⟩
  obtain ⟨hx1, hx2, hx3⟩ := openN_ok hx
  obtain ⟨hy1, hy2, hy3⟩ := openN_ok hy
  have hxn := open_norm hx
  have hyn := open_norm hy
  have HM : Hid (addP way a b = addN way a b ⟨xn, xnan, xinf, xe, xs⟩ ⟨yn, ynan, yinf, ye, ys⟩) := Lib.hid (by unfold addP; rw [hx, hy])
  have HX := Lib.hid hx
  have HY := Lib.hid hy
  clear hx hy
  generalize addP way a b = r at *
  cases xnan
  · cases ynan
    · cases xinf
      · cases yinf
        · have HXN := Lib.hid (hxn rfl rfl)
          have HYN := Lib.hid (hyn rfl rfl)
          clear hxn hyn
          by_cases hz : xs = 0 ∧ ys = 0
          · obtain ⟨rfl, rfl⟩ := hz
            by_cases hab : a = b
            · subst hab
              have hq : ((a : Int) == (a : Int)) = true := by simp
              have HR : Hid (r = a) := Lib.hid (by rw [HM.out]; simp [addN])
              go_enter Try.func39, Try.ntmps39
              go_wp2_with fail
              refine (open_at h HX).mono ?_
              rintro e W1 ⟨rfl, hB1⟩
              go_wp2_with fail
              refine (open_at h' HY).mono ?_
              rintro e W2 ⟨rfl, hB2⟩
              have hB2' := hB1.trans (hB2.mono hB1.size)
              have hz2 := hB2'.size
              clear hB1 hB2
              go_wp2
              go_ret
              exact ⟨by rw [HR.out]; rfl, (hB2'.alloc hz2 _).alloc (by simp; omega) _⟩
            · have hq : ((a : Int) == (b : Int)) = false := by rw [beq_eq_false_iff_ne]; omega
              have HR : Hid (r = sgn (way == 2)) := Lib.hid (by rw [HM.out]; simp [addN, hab])
              go_enter Try.func39, Try.ntmps39
              go_wp2_with fail
              refine (open_at h HX).mono ?_
              rintro e W1 ⟨rfl, hB1⟩
              go_wp2_with fail
              refine (open_at h' HY).mono ?_
              rintro e W2 ⟨rfl, hB2⟩
              have hB2' := hB1.trans (hB2.mono hB1.size)
              have hz2 := hB2'.size
              clear hB1 hB2
              go_wp2_with fail
              refine (nought_any _ _).mono ?_
              rintro e w' ⟨rfl, rfl⟩
              go_wp2
              go_ret
              exact ⟨by rw [HR.out]; rfl, (hB2'.alloc hz2 _).alloc (by simp; omega) _⟩
          · have hzx : ((xs : Int) == 0) = decide (xs = 0) := by
              by_cases e : xs = 0
              · rw [decide_eq_true e, beq_iff_eq]; omega
              · rw [decide_eq_false e, beq_eq_false_iff_ne]; omega
            have hzy : ((ys : Int) == 0) = decide (ys = 0) := by
              by_cases e : ys = 0
              · rw [decide_eq_true e, beq_iff_eq]; omega
              · rw [decide_eq_false e, beq_eq_false_iff_ne]; omega
            have HR : Hid (r = if xe < ye then coreN way ⟨yn, false, false, ye, ys⟩ ⟨xn, false, false, xe, xs⟩ else coreN way ⟨xn, false, false, xe, xs⟩ ⟨yn, false, false, ye, ys⟩) := Lib.hid (by rw [HM.out]; simp [addN, hz])
            clear HM
            go_enter Try.func39, Try.ntmps39
            go_wp2_with fail
            refine (open_at h HX).mono ?_
            rintro e W1 ⟨rfl, hB1⟩
            go_wp2_with fail
            refine (open_at h' HY).mono ?_
            rintro e W2 ⟨rfl, hB2⟩
            have hB2' := hB1.trans (hB2.mono hB1.size)
            have hz2 := hB2'.size
            clear hB1 hB2
            clear HX HY
            go_upto_block 0 with fail
            go_cut [] from 18 to 62 (fun wx => wx = (W2.alloc (.cells #[.bool xn, .bool false, .bool false, .int .i64 xe, .int .u64 (xs : Int)] 67)).alloc (.cells #[.bool yn, .bool false, .bool false, .int .i64 ye, .int .u64 (ys : Int)] 67))
            case first =>
              have hor : (decide (xs = 0) && decide (ys = 0)) = false := by
                rw [Bool.and_eq_false_iff]
                by_cases e : xs = 0
                · right; exact decide_eq_false (fun e2 => hz ⟨e, e2⟩)
                · left; exact decide_eq_false e
              cases hxz : decide (xs = 0) <;> cases hyz : decide (ys = 0) <;> rw [hxz, hyz] at hor
              all_goals first
                | (cases hor; done)
                | (go_wp2
                   go_meet
                   case rel => exact rfl)
            case rest =>
              obtain ⟨X, Y, HXY, hX1, hY1, hle, hnm, hb⟩ : ∃ X Y : Num, Hid ((X, Y) = if xe < ye then (⟨yn, false, false, ye, ys⟩, ⟨xn, false, false, xe, xs⟩) else (⟨xn, false, false, xe, xs⟩, ⟨yn, false, false, ye, ys⟩)) ∧ X.sig < 16777216 ∧ Y.sig < 16777216 ∧ Y.exp ≤ X.exp ∧ (-149 < X.exp → 8388608 ≤ X.sig) ∧ (-149 ≤ Y.exp ∧ X.exp ≤ 104) ∧ Hid (r = coreN way X Y) := by
                by_cases hlt : xe < ye
                · exact ⟨_, _, Lib.hid (by rw [if_pos hlt]), hy1, hx1, by show xe ≤ ye; omega, HYN.out, ⟨hx2, hy3⟩, Lib.hid (by rw [HR.out, if_pos hlt])⟩
                · exact ⟨_, _, Lib.hid (by rw [if_neg hlt]), hx1, hy1, by show ye ≤ xe; omega, HXN.out, ⟨hy2, hx3⟩, Lib.hid (by rw [HR.out, if_neg hlt])⟩
              obtain ⟨hb, HC⟩ := hb
              clear HR
              subst hcut
              have hB3 := (hB2'.alloc hz2 (.cells #[.bool X.neg, .bool false, .bool false, .int .i64 X.exp, .int .u64 (X.sig : Int)] 67)).alloc (by simp; omega) (.cells #[.bool Y.neg, .bool false, .bool false, .int .i64 Y.exp, .int .u64 (Y.sig : Int)] 67)
              go_upto_if 67 with fail
              go_cut [] from 68 to 69 (fun wx => wx = (W2.alloc (.cells #[.bool X.neg, .bool false, .bool false, .int .i64 X.exp, .int .u64 (X.sig : Int)] 67)).alloc (.cells #[.bool Y.neg, .bool false, .bool false, .int .i64 Y.exp, .int .u64 (Y.sig : Int)] 67))
              case first =>
                by_cases hlt : xe < ye
                · obtain ⟨rfl, rfl⟩ := Prod.mk.inj (HXY.out.trans (if_pos hlt))
                  clear HXY
                  dsimp only at *
                  go_wp2
                  go_meet
                  case rel => exact rfl
                · obtain ⟨rfl, rfl⟩ := Prod.mk.inj (HXY.out.trans (if_neg hlt))
                  clear HXY
                  dsimp only at *
                  go_wp2
                  go_meet
                  case rel => exact rfl
              case rest =>
                subst hcut
                clear HXY hz hzx hzy hx1 hx2 hx3 hy1 hy2 hy3 HXN HYN h h'
                obtain ⟨Xn, Xnan, Xinf, Xe, Xs⟩ := X
                obtain ⟨Yn, Ynan, Yinf, Ye, Ys⟩ := Y
                dsimp only at *
                obtain ⟨d, hd⟩ : ∃ d : Nat, Xe - Ye = (d : Int) := ⟨(Xe - Ye).toNat, by omega⟩
                by_cases h38 : d ≤ 38
                · have h2 := two_le h38
                  have e38 : two 38 = 274877906944 := rfl
                  have hm : Xs * two d < 4611686018427387904 := by
                    have := Nat.mul_le_mul (show Xs ≤ 16777215 by omega) h2
                    rw [e38] at this
                    omega
                  have hsh : IntKind.u64.wrap ((Xs : Int) * 2 ^ d) = ((Xs * two d : Nat) : Int) := by
                    rw [two_cast, ← Int.natCast_mul, wrap64_nat (by omega)]
                  have HC2 : Hid (r = if Xn = Yn then roundP way Xn Ye (Xs * two d + Ys) false else if Xs * two d = Ys then sgn (way == 2) else if Ys < Xs * two d then roundP way Xn Ye (Xs * two d - Ys) false else roundP way Yn Ye (Ys - Xs * two d) false) := Lib.hid (by
                    rw [HC.out]; unfold coreN; dsimp only; rw [show (Xe - Ye).toNat = d from by omega, if_pos h38])
                  clear HC h2
                  generalize Xs * two d = Hh at *
                  by_cases hn : Xn = Yn
                  · subst hn
                    have HR := Lib.hid (HC2.out.trans (if_pos rfl)).symm
                    go_wp2
                    go_quiet (fail)
                    go_wp2_with fail
                    refine (round_at (s := Hh + Ys) (by first | rfl | (simp; done) | omega) (by omega) (by omega) HR).mono ?_
                    rintro e w' ⟨rfl, rfl⟩
                    go_wp2
                    go_ret
                    exact ⟨rfl, below_drewN hB3 _⟩
                  · have HC3 := Lib.hid (HC2.out.trans (if_neg hn))
                    obtain rfl : Yn = !Xn := by cases Xn <;> cases Yn <;> simp_all
                    have hq : (Xn == !Xn) = false := by cases Xn <;> rfl
                    clear hn HC2
                    by_cases he : Hh = Ys
                    · have HR := Lib.hid (HC3.out.trans (if_pos he))
                      subst he
                      clear HC3
                      go_wp2
                      go_quiet (fail)
                      go_wp2_with fail
                      refine (nought_any _ _).mono ?_
                      rintro e w' ⟨rfl, rfl⟩
                      go_wp2
                      go_ret
                      exact ⟨by rw [HR.out]; rfl, below_drewN hB3 _⟩
                    · have HC4 := Lib.hid (HC3.out.trans (if_neg he))
                      have hq2 : ((Hh : Int) == (Ys : Int)) = false := by rw [beq_eq_false_iff_ne]; omega
                      by_cases hl : Ys < Hh
                      · have HR := Lib.hid (HC4.out.trans (if_pos hl)).symm
                        have hl' : (Ys : Int) < (Hh : Int) := by omega
                        have hw : IntKind.u64.wrap ((Hh : Int) - (Ys : Int)) = ((Hh - Ys : Nat) : Int) := by rw [show (Hh : Int) - Ys = ((Hh - Ys : Nat) : Int) from by omega, wrap64_nat (by omega)]
                        go_wp2
                        go_quiet (fail)
                        go_wp2_with fail
                        refine (round_at (s := Hh - Ys) (by first | rfl | omega) (by omega) (by omega) HR).mono ?_
                        rintro e w' ⟨rfl, rfl⟩
                        go_wp2
                        go_ret
                        exact ⟨rfl, below_drewN hB3 _⟩
                      · have HR := Lib.hid (HC4.out.trans (if_neg hl)).symm
                        have hl' : ¬ (Ys : Int) < (Hh : Int) := by omega
                        have hw : IntKind.u64.wrap ((Ys : Int) - (Hh : Int)) = ((Ys - Hh : Nat) : Int) := by rw [show (Ys : Int) - Hh = ((Ys - Hh : Nat) : Int) from by omega, wrap64_nat (by omega)]
                        go_wp2
                        go_quiet (fail)
                        go_wp2_with fail
                        refine (round_at (s := Ys - Hh) (by first | rfl | omega) (by omega) (by omega) HR).mono ?_
                        rintro e w' ⟨rfl, rfl⟩
                        go_wp2
                        go_ret
                        exact ⟨rfl, below_drewN hB3 _⟩
                · obtain ⟨k, hk⟩ : ∃ k : Nat, (d : Int) - 38 = (k : Int) := ⟨d - 38, by omega⟩
                  have hXs : 8388608 ≤ Xs := hnm (by omega)
                  have HC2 : Hid (r = if Xn = Yn then roundP way Xn (Xe - 38) (Xs * 274877906944 + Ys / two k) (decide (Ys % two k ≠ 0)) else if Ys % two k ≠ 0 then roundP way Xn (Xe - 38) (Xs * 274877906944 - Ys / two k - 1) true else roundP way Xn (Xe - 38) (Xs * 274877906944 - Ys / two k) false) := Lib.hid (by
                    rw [HC.out]; unfold coreN; dsimp only; rw [show (Xe - Ye).toNat = d from by omega, if_neg h38, show d - 38 = k from by omega])
                  have hlow := shr_low (k := k) hY1
                  have hlost := shr_lost (k := k) hY1
                  have hL : Ys / two k < 16777216 := Nat.lt_of_le_of_lt (Nat.div_le_self _ _) hY1
                  have HC3 : Hid (r = if Xn = Yn then roundP way Xn (Xe - 38) (Xs * 274877906944 + Ys / two k) (decide (Ys % two k ≠ 0)) else if decide (Ys % two k ≠ 0) = true then roundP way Xn (Xe - 38) (Xs * 274877906944 - Ys / two k - 1) true else roundP way Xn (Xe - 38) (Xs * 274877906944 - Ys / two k) false) := Lib.hid (by
                    rw [HC2.out]; simp only [decide_eq_true_eq])
                  clear HC HC2
                  generalize Ys / two k = L at *
                  generalize decide (Ys % two k ≠ 0) = lb at *
                  by_cases hn : Xn = Yn
                  · subst hn
                    have HR := Lib.hid (HC3.out.trans (if_pos rfl)).symm
                    go_wp2
                    go_quiet (fail)
                    go_wp2
                    go_quiet (fail)
                    go_wp2_with fail
                    refine (round_at (s := Xs * 274877906944 + L) (by first | rfl | (simp; done) | omega) (by omega) (by omega) HR).mono ?_
                    rintro e w' ⟨rfl, rfl⟩
                    go_wp2
                    go_ret
                    exact ⟨rfl, below_drewN hB3 _⟩
                  · have HC4 := Lib.hid (HC3.out.trans (if_neg hn))
                    obtain rfl : Yn = !Xn := by cases Xn <;> cases Yn <;> simp_all
                    have hq : (Xn == !Xn) = false := by cases Xn <;> rfl
                    clear hn HC3
                    cases lb
                    · have HR := Lib.hid (HC4.out.trans (if_neg (by decide))).symm
                      have hq2 : ((Xs : Int) * 274877906944 == (L : Int)) = false := by rw [beq_eq_false_iff_ne]; omega
                      have hl' : (L : Int) < (Xs : Int) * 274877906944 := by omega
                      have hw : IntKind.u64.wrap ((Xs : Int) * 274877906944 - (L : Int)) = ((Xs * 274877906944 - L : Nat) : Int) := by rw [show (Xs : Int) * 274877906944 - L = ((Xs * 274877906944 - L : Nat) : Int) from by omega, wrap64_nat (by omega)]
                      go_wp2
                      go_quiet (fail)
                      go_wp2
                      go_quiet (fail)
                      go_wp2_with fail
                      refine (round_at (s := Xs * 274877906944 - L) (by first | rfl | omega) (by omega) (by omega) HR).mono ?_
                      rintro e w' ⟨rfl, rfl⟩
                      go_wp2
                      go_ret
                      exact ⟨rfl, below_drewN hB3 _⟩
                    · have HR := Lib.hid (HC4.out.trans (if_pos rfl)).symm
                      go_wp2
                      go_quiet (fail)
                      go_wp2
                      go_quiet (fail)
                      go_wp2_with fail
                      refine (round_at (s := Xs * 274877906944 - L - 1) (by first | rfl | omega) (by omega) (by omega) HR).mono ?_
                      rintro e w' ⟨rfl, rfl⟩
                      go_wp2
                      go_ret
                      exact ⟨rfl, below_drewN hB3 _⟩
        · have HR : Hid (r = b) := Lib.hid (by rw [HM.out]; simp [addN])
          go_enter Try.func39, Try.ntmps39
          go_wp2_with fail
          refine (open_at h HX).mono ?_
          rintro e W1 ⟨rfl, hB1⟩
          go_wp2_with fail
          refine (open_at h' HY).mono ?_
          rintro e W2 ⟨rfl, hB2⟩
          have hB2' := hB1.trans (hB2.mono hB1.size)
          have hz2 := hB2'.size
          clear hB1 hB2
          go_wp2
          go_ret
          exact ⟨by rw [HR.out]; rfl, (hB2'.alloc hz2 _).alloc (by simp; omega) _⟩
      · cases yinf
        · have HR : Hid (r = a) := Lib.hid (by rw [HM.out]; simp [addN])
          go_enter Try.func39, Try.ntmps39
          go_wp2_with fail
          refine (open_at h HX).mono ?_
          rintro e W1 ⟨rfl, hB1⟩
          go_wp2_with fail
          refine (open_at h' HY).mono ?_
          rintro e W2 ⟨rfl, hB2⟩
          have hB2' := hB1.trans (hB2.mono hB1.size)
          have hz2 := hB2'.size
          clear hB1 hB2
          go_wp2
          go_ret
          exact ⟨by rw [HR.out]; rfl, (hB2'.alloc hz2 _).alloc (by simp; omega) _⟩
        · by_cases hn : xn = yn
          · subst hn
            have hq : (xn != xn) = false := by simp
            have HR : Hid (r = a) := Lib.hid (by rw [HM.out]; simp [addN])
            go_enter Try.func39, Try.ntmps39
            go_wp2_with fail
            refine (open_at h HX).mono ?_
            rintro e W1 ⟨rfl, hB1⟩
            go_wp2_with fail
            refine (open_at h' HY).mono ?_
            rintro e W2 ⟨rfl, hB2⟩
            have hB2' := hB1.trans (hB2.mono hB1.size)
            have hz2 := hB2'.size
            clear hB1 hB2
            go_wp2
            go_ret
            exact ⟨by rw [HR.out]; rfl, (hB2'.alloc hz2 _).alloc (by simp; omega) _⟩
          · obtain rfl : yn = !xn := by cases xn <;> cases yn <;> simp_all
            have hq : (xn != !xn) = true := by cases xn <;> rfl
            have HR : Hid (r = 2143289344) := Lib.hid (by rw [HM.out]; simp [addN])
            clear hn
            go_enter Try.func39, Try.ntmps39
            go_wp2_with fail
            refine (open_at h HX).mono ?_
            rintro e W1 ⟨rfl, hB1⟩
            go_wp2_with fail
            refine (open_at h' HY).mono ?_
            rintro e W2 ⟨rfl, hB2⟩
            have hB2' := hB1.trans (hB2.mono hB1.size)
            have hz2 := hB2'.size
            clear hB1 hB2
            go_wp2
            go_ret
            exact ⟨by rw [HR.out]; rfl, (hB2'.alloc hz2 _).alloc (by simp; omega) _⟩
    · have HR : Hid (r = 2143289344) := Lib.hid (by rw [HM.out]; simp [addN])
      go_enter Try.func39, Try.ntmps39
      go_wp2_with fail
      refine (open_at h HX).mono ?_
      rintro e W1 ⟨rfl, hB1⟩
      go_wp2_with fail
      refine (open_at h' HY).mono ?_
      rintro e W2 ⟨rfl, hB2⟩
      have hB2' := hB1.trans (hB2.mono hB1.size)
      have hz2 := hB2'.size
      clear hB1 hB2
      go_wp2
      go_ret
      exact ⟨by rw [HR.out]; rfl, (hB2'.alloc hz2 _).alloc (by simp; omega) _⟩
  · have HR : Hid (r = 2143289344) := Lib.hid (by rw [HM.out]; simp [addN])
    go_enter Try.func39, Try.ntmps39
    go_wp2_with fail
    refine (open_at h HX).mono ?_
    rintro e W1 ⟨rfl, hB1⟩
    go_wp2_with fail
    refine (open_at h' HY).mono ?_
    rintro e W2 ⟨rfl, hB2⟩
    have hB2' := hB1.trans (hB2.mono hB1.size)
    have hz2 := hB2'.size
    clear hB1 hB2
    go_wp2
    go_ret
    exact ⟨by rw [HR.out]; rfl, (hB2'.alloc hz2 _).alloc (by simp; omega) _⟩
end Go.Proofs.Ytanccobllehnaaa
