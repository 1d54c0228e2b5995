import Derived.Test.YtegeadkilolngaaMRdA
import Derived.Test.YtegeadkilolngaaMRef
import Derived.Test.YtegeadkilolngaaMSoft
import Derived.Laws.Bits128
import Derived.Deep.CutRange
import Derived.BigQuiet
import Derived.Deep.QuietTactic
import Derived.ProofKit
import Derived.OpenShut
import Derived.ChangeOld
import Derived.SizedLaws
/- The contract of round.FmaBy. -/
namespace Go.Proofs.Ytegeadkilolngaa
open Go.RowKit

/-- of finite ones -/
def finP (way : Int) (neg : Bool) (c : Nat) (pe : Int) (ps : Nat) (zn : Bool) (ze : Int) (zs : Nat) : Nat :=
  if ps = 0 ∧ zs = 0 then (if zn = neg then c else sgn (way == 2))
  else if ps = 0 then c
  else if zs = 0 then roundP way neg pe ps false
  else sumF way neg pe ps zn ze zs
/-- a * b + c, rounded once, as its code has it -/
def fmaP (way : Int) (a b c : Nat) : Nat :=
  if nanP a = true ∨ nanP b = true ∨ nanP c = true ∨ nanP (mulP 0 a b) = true then 2143289344
  else if infP a = true ∨ infP b = true then (if infP c = true ∧ c ≠ sgn (sgnX a b) + 2139095040 then 2143289344 else sgn (sgnX a b) + 2139095040)
  else if infP c = true then c
  else finP way (sgnX a b) c (oE a + oE b) (oS a * oS b) (oN c) (oE c) (oS c)
theorem mul0_at {a b r : Nat} {w : World} (h : Hid (a < 4294967296)) (h' : Hid (b < 4294967296)) (hr : Hid (mulP 0 a b = r)) : Calls Try.prog 35 #[.int .u32 (a : Int), .int .u32 (b : Int)] w fun e w' => e = .returned (.int .u32 (r : Int)) ∧ Below w.heap.size w w' := by
  have := mul0_any a b w h h'
  rw [hr.out] at this
  exact this
set_option maxRecDepth 100000 in
set_option maxHeartbeats 3200000 in
theorem fma_any (way : Int) (a b c : Nat) (w : World) (h1 : Hid (a < 4294967296)) (h2 : Hid (b < 4294967296)) (h3 : Hid (c < 4294967296)) :
    Calls Try.prog 62 #[.int .i64 way, .int .u32 (a : Int), .int .u32 (b : Int), .int .u32 (c : Int)] w (BR w (fmaP way a b c)) := by
  obtain ⟨sn, hsn⟩ : ∃ s, sgnX a b = s := ⟨_, rfl⟩
  have hneg : ((a : Int) / 2147483648 != (b : Int) / 2147483648) = sn := by
    rw [← hsn]
    have g1 := h1.out
    have g2 := h2.out
    unfold sgnX
    by_cases ha : 2147483648 ≤ a <;> by_cases hb : 2147483648 ≤ b
    · rw [decide_eq_true ha, decide_eq_true hb, show (a : Int) / 2147483648 = 1 from by omega, show (b : Int) / 2147483648 = 1 from by omega]; rfl
    · rw [decide_eq_true ha, decide_eq_false hb, show (a : Int) / 2147483648 = 1 from by omega, show (b : Int) / 2147483648 = 0 from by omega]; rfl
    · rw [decide_eq_false ha, decide_eq_true hb, show (a : Int) / 2147483648 = 0 from by omega, show (b : Int) / 2147483648 = 1 from by omega]; rfl
    · rw [decide_eq_false ha, decide_eq_false hb, show (a : Int) / 2147483648 = 0 from by omega, show (b : Int) / 2147483648 = 0 from by omega]; rfl
  have hneg2 : (!((a : Int) / 2147483648 == (b : Int) / 2147483648)) = sn := hneg
  have SN := Lib.hid hsn
  clear hsn
  cases hna : nanP a
  case true =>
    have NA := Lib.hid hna
    have HE : Hid (fmaP way a b c = 2143289344) := Lib.hid (by unfold fmaP; rw [if_pos (.inl hna)])
    have IA : Hid (infP a = false) := Lib.hid (by cases h : infP a; · rfl
                                                  · rw [inf_nan h] at hna; cases hna)
    obtain ⟨ib, hib⟩ : ∃ x, infP b = x := ⟨_, rfl⟩
    have IB := Lib.hid hib
    clear hna hib
    go_enter Try.func62, Try.ntmps62
    have hB0 := Below.refl w.heap.size w
    have hz0 := hB0.size
    go_wp2_with fail
    refine (inf_at h1 IA).mono ?_
    rintro e w' ⟨rfl, rfl⟩
    go_wp2_with fail
    refine (inf_at h2 IB).mono ?_
    rintro e w' ⟨rfl, rfl⟩
    go_wp2_with fail
    refine (nan_at h1 NA).mono ?_
    rintro e w' ⟨rfl, rfl⟩
    go_wp2
    go_ret
    exact ⟨by rw [HE.out]; try rfl, hB0⟩
  have NA := Lib.hid hna
  cases hnb : nanP b
  case true =>
    have NB := Lib.hid hnb
    have HE : Hid (fmaP way a b c = 2143289344) := Lib.hid (by unfold fmaP; rw [if_pos (.inr (.inl hnb))])
    have IB : Hid (infP b = false) := Lib.hid (by cases h : infP b; · rfl
                                                  · rw [inf_nan h] at hnb; cases hnb)
    cases hia : infP a
    · have IA := Lib.hid hia
      clear hna hnb hia
      go_enter Try.func62, Try.ntmps62
      have hB0 := Below.refl w.heap.size w
      have hz0 := hB0.size
      go_wp2_with fail
      refine (inf_at h1 IA).mono ?_
      rintro e w' ⟨rfl, rfl⟩
      go_wp2_with fail
      refine (inf_at h2 IB).mono ?_
      rintro e w' ⟨rfl, rfl⟩
      go_wp2_with fail
      refine (nan_at h1 NA).mono ?_
      rintro e w' ⟨rfl, rfl⟩
      go_wp2_with fail
      refine (nan_at h2 NB).mono ?_
      rintro e w' ⟨rfl, rfl⟩
      go_wp2
      go_ret
      exact ⟨by rw [HE.out]; try rfl, hB0⟩
    · have IA := Lib.hid hia
      clear hna hnb hia
      go_enter Try.func62, Try.ntmps62
      have hB0 := Below.refl w.heap.size w
      have hz0 := hB0.size
      go_wp2_with fail
      refine (inf_at h1 IA).mono ?_
      rintro e w' ⟨rfl, rfl⟩
      go_wp2_with fail
      refine (nan_at h1 NA).mono ?_
      rintro e w' ⟨rfl, rfl⟩
      go_wp2_with fail
      refine (nan_at h2 NB).mono ?_
      rintro e w' ⟨rfl, rfl⟩
      go_wp2
      go_ret
      exact ⟨by rw [HE.out]; try rfl, hB0⟩
  have NB := Lib.hid hnb
  cases hnc : nanP c
  case true =>
    have NC := Lib.hid hnc
    have HE : Hid (fmaP way a b c = 2143289344) := Lib.hid (by unfold fmaP; rw [if_pos (.inr (.inr (.inl hnc)))])
    obtain ⟨ib, hib⟩ : ∃ x, infP b = x := ⟨_, rfl⟩
    have IB := Lib.hid hib
    cases hia : infP a
    · have IA := Lib.hid hia
      clear hna hnb hnc hia hib
      go_enter Try.func62, Try.ntmps62
      have hB0 := Below.refl w.heap.size w
      have hz0 := hB0.size
      go_wp2_with fail
      refine (inf_at h1 IA).mono ?_
      rintro e w' ⟨rfl, rfl⟩
      go_wp2_with fail
      refine (inf_at h2 IB).mono ?_
      rintro e w' ⟨rfl, rfl⟩
      go_wp2_with fail
      refine (nan_at h1 NA).mono ?_
      rintro e w' ⟨rfl, rfl⟩
      go_wp2_with fail
      refine (nan_at h2 NB).mono ?_
      rintro e w' ⟨rfl, rfl⟩
      go_wp2_with fail
      refine (nan_at h3 NC).mono ?_
      rintro e w' ⟨rfl, rfl⟩
      go_wp2
      go_ret
      exact ⟨by rw [HE.out]; try rfl, hB0⟩
    · have IA := Lib.hid hia
      clear hna hnb hnc hia hib
      go_enter Try.func62, Try.ntmps62
      have hB0 := Below.refl w.heap.size w
      have hz0 := hB0.size
      go_wp2_with fail
      refine (inf_at h1 IA).mono ?_
      rintro e w' ⟨rfl, rfl⟩
      go_wp2_with fail
      refine (nan_at h1 NA).mono ?_
      rintro e w' ⟨rfl, rfl⟩
      go_wp2_with fail
      refine (nan_at h2 NB).mono ?_
      rintro e w' ⟨rfl, rfl⟩
      go_wp2_with fail
      refine (nan_at h3 NC).mono ?_
      rintro e w' ⟨rfl, rfl⟩
      go_wp2
      go_ret
      exact ⟨by rw [HE.out]; try rfl, hB0⟩
  have NC := Lib.hid hnc
  obtain ⟨m, hm⟩ : ∃ x, mulP 0 a b = x := ⟨_, rfl⟩
  have HML : Hid (m < 4294967296) := Lib.hid (by rw [← hm]; exact (okR.mul 0 a b).1)
  have HM := Lib.hid hm
  cases hnm : nanP m
  case true =>
    have NM := Lib.hid hnm
    have HE : Hid (fmaP way a b c = 2143289344) := Lib.hid (by unfold fmaP; rw [if_pos (.inr (.inr (.inr (by rw [hm]; exact hnm))))])
    obtain ⟨ib, hib⟩ : ∃ x, infP b = x := ⟨_, rfl⟩
    have IB := Lib.hid hib
    cases hia : infP a
    · have IA := Lib.hid hia
      clear hna hnb hnc hnm hm hia hib
      go_enter Try.func62, Try.ntmps62
      have hB0 := Below.refl w.heap.size w
      have hz0 := hB0.size
      go_wp2_with fail
      refine (inf_at h1 IA).mono ?_
      rintro e w' ⟨rfl, rfl⟩
      go_wp2_with fail
      refine (inf_at h2 IB).mono ?_
      rintro e w' ⟨rfl, rfl⟩
      go_wp2_with fail
      refine (nan_at h1 NA).mono ?_
      rintro e w' ⟨rfl, rfl⟩
      go_wp2_with fail
      refine (nan_at h2 NB).mono ?_
      rintro e w' ⟨rfl, rfl⟩
      go_wp2_with fail
      refine (nan_at h3 NC).mono ?_
      rintro e w' ⟨rfl, rfl⟩
      go_wp2_with fail
      refine (mul0_at h1 h2 HM).mono ?_
      rintro e W1 ⟨rfl, hC⟩
      have hB1 := hB0.trans (hC.mono hz0)
      have hz1 := hB1.size
      clear hC hB0 hz0
      go_wp2_with fail
      refine (nan_at HML NM).mono ?_
      rintro e w' ⟨rfl, rfl⟩
      go_wp2
      go_ret
      exact ⟨by rw [HE.out]; try rfl, hB1⟩
    · have IA := Lib.hid hia
      clear hna hnb hnc hnm hm hia hib
      go_enter Try.func62, Try.ntmps62
      have hB0 := Below.refl w.heap.size w
      have hz0 := hB0.size
      go_wp2_with fail
      refine (inf_at h1 IA).mono ?_
      rintro e w' ⟨rfl, rfl⟩
      go_wp2_with fail
      refine (nan_at h1 NA).mono ?_
      rintro e w' ⟨rfl, rfl⟩
      go_wp2_with fail
      refine (nan_at h2 NB).mono ?_
      rintro e w' ⟨rfl, rfl⟩
      go_wp2_with fail
      refine (nan_at h3 NC).mono ?_
      rintro e w' ⟨rfl, rfl⟩
      go_wp2_with fail
      refine (mul0_at h1 h2 HM).mono ?_
      rintro e W1 ⟨rfl, hC⟩
      have hB1 := hB0.trans (hC.mono hz0)
      have hz1 := hB1.size
      clear hC hB0 hz0
      go_wp2_with fail
      refine (nan_at HML NM).mono ?_
      rintro e w' ⟨rfl, rfl⟩
      go_wp2
      go_ret
      exact ⟨by rw [HE.out]; try rfl, hB1⟩
  have NM := Lib.hid hnm
  have hno : ¬ (nanP a = true ∨ nanP b = true ∨ nanP c = true ∨ nanP (mulP 0 a b) = true) := by rw [hna, hnb, hnc, hm, hnm]; simp
  obtain ⟨I, hI⟩ : ∃ x, sgn sn + 2139095040 = x := ⟨_, rfl⟩
  have hor : bits .or .u32 ((sgn sn : Nat) : Int) 2139095040 = (I : Int) := by
    rw [or_sign sn (by decide) (by decide), ← hI]; rfl
  cases hia : infP a
  case true =>
    have IA := Lib.hid hia
    cases hic : infP c
    · have IC := Lib.hid hic
      have HE : Hid (fmaP way a b c = I) := Lib.hid (by unfold fmaP; rw [if_neg hno, if_pos (.inl hia), if_neg (by rw [hic]; simp), SN.out]; exact hI)
      clear hna hnb hnc hnm hm hia hno hic hI
      go_enter Try.func62, Try.ntmps62
      have hB0 := Below.refl w.heap.size w
      have hz0 := hB0.size
      go_wp2_with fail
      refine (inf_at h1 IA).mono ?_
      rintro e w' ⟨rfl, rfl⟩
      go_wp2_with fail
      refine (nan_at h1 NA).mono ?_
      rintro e w' ⟨rfl, rfl⟩
      go_wp2_with fail
      refine (nan_at h2 NB).mono ?_
      rintro e w' ⟨rfl, rfl⟩
      go_wp2_with fail
      refine (nan_at h3 NC).mono ?_
      rintro e w' ⟨rfl, rfl⟩
      go_wp2_with fail
      refine (mul0_at h1 h2 HM).mono ?_
      rintro e W1 ⟨rfl, hC⟩
      have hB1 := hB0.trans (hC.mono hz0)
      have hz1 := hB1.size
      clear hC hB0 hz0
      go_wp2_with fail
      refine (nan_at HML NM).mono ?_
      rintro e w' ⟨rfl, rfl⟩
      go_wp2_with fail
      refine (inf_at h3 IC).mono ?_
      rintro e w' ⟨rfl, rfl⟩
      go_wp2_with fail
      refine (rsign_any sn _).mono ?_
      rintro e w' ⟨rfl, rfl⟩
      go_wp2
      go_ret
      exact ⟨by rw [HE.out]; try rfl, hB1⟩
    · have IC := Lib.hid hic
      by_cases hcI : c = I
      · have HE : Hid (fmaP way a b c = I) := Lib.hid (by unfold fmaP; rw [if_neg hno, if_pos (.inl hia), if_neg (by rw [SN.out, hI]; simp [hcI]), SN.out]; exact hI)
        have bcI : ((c : Int) != (I : Int)) = false := by rw [hcI]; simp
        clear hna hnb hnc hnm hm hia hno hic hI hcI
        go_enter Try.func62, Try.ntmps62
        have hB0 := Below.refl w.heap.size w
        have hz0 := hB0.size
        go_wp2_with fail
        refine (inf_at h1 IA).mono ?_
        rintro e w' ⟨rfl, rfl⟩
        go_wp2_with fail
        refine (nan_at h1 NA).mono ?_
        rintro e w' ⟨rfl, rfl⟩
        go_wp2_with fail
        refine (nan_at h2 NB).mono ?_
        rintro e w' ⟨rfl, rfl⟩
        go_wp2_with fail
        refine (nan_at h3 NC).mono ?_
        rintro e w' ⟨rfl, rfl⟩
        go_wp2_with fail
        refine (mul0_at h1 h2 HM).mono ?_
        rintro e W1 ⟨rfl, hC⟩
        have hB1 := hB0.trans (hC.mono hz0)
        have hz1 := hB1.size
        clear hC hB0 hz0
        go_wp2_with fail
        refine (nan_at HML NM).mono ?_
        rintro e w' ⟨rfl, rfl⟩
        go_wp2_with fail
        refine (inf_at h3 IC).mono ?_
        rintro e w' ⟨rfl, rfl⟩
        go_wp2_with fail
        refine (rsign_any sn _).mono ?_
        rintro e w' ⟨rfl, rfl⟩
        go_wp2_with fail
        refine (rsign_any sn _).mono ?_
        rintro e w' ⟨rfl, rfl⟩
        go_wp2
        go_ret
        exact ⟨by rw [HE.out]; try rfl, hB1⟩
      · have HE : Hid (fmaP way a b c = 2143289344) := Lib.hid (by unfold fmaP; rw [if_neg hno, if_pos (.inl hia), if_pos ⟨hic, by rw [SN.out, hI]; exact hcI⟩])
        have bcI : ((c : Int) != (I : Int)) = true := by rw [bne_iff_ne]; omega
        clear hna hnb hnc hnm hm hia hno hic hI hcI
        go_enter Try.func62, Try.ntmps62
        have hB0 := Below.refl w.heap.size w
        have hz0 := hB0.size
        go_wp2_with fail
        refine (inf_at h1 IA).mono ?_
        rintro e w' ⟨rfl, rfl⟩
        go_wp2_with fail
        refine (nan_at h1 NA).mono ?_
        rintro e w' ⟨rfl, rfl⟩
        go_wp2_with fail
        refine (nan_at h2 NB).mono ?_
        rintro e w' ⟨rfl, rfl⟩
        go_wp2_with fail
        refine (nan_at h3 NC).mono ?_
        rintro e w' ⟨rfl, rfl⟩
        go_wp2_with fail
        refine (mul0_at h1 h2 HM).mono ?_
        rintro e W1 ⟨rfl, hC⟩
        have hB1 := hB0.trans (hC.mono hz0)
        have hz1 := hB1.size
        clear hC hB0 hz0
        go_wp2_with fail
        refine (nan_at HML NM).mono ?_
        rintro e w' ⟨rfl, rfl⟩
        go_wp2_with fail
        refine (inf_at h3 IC).mono ?_
        rintro e w' ⟨rfl, rfl⟩
        go_wp2_with fail
        refine (rsign_any sn _).mono ?_
        rintro e w' ⟨rfl, rfl⟩
        go_wp2
        go_ret
        exact ⟨by rw [HE.out]; try rfl, hB1⟩
  have IA := Lib.hid hia
  cases hib : infP b
  case true =>
    have IB := Lib.hid hib
    cases hic : infP c
    · have IC := Lib.hid hic
      have HE : Hid (fmaP way a b c = I) := Lib.hid (by unfold fmaP; rw [if_neg hno, if_pos (.inr hib), if_neg (by rw [hic]; simp), SN.out]; exact hI)
      clear hna hnb hnc hnm hm hia hib hno hic hI
      go_enter Try.func62, Try.ntmps62
      have hB0 := Below.refl w.heap.size w
      have hz0 := hB0.size
      go_wp2_with fail
      refine (inf_at h1 IA).mono ?_
      rintro e w' ⟨rfl, rfl⟩
      go_wp2_with fail
      refine (inf_at h2 IB).mono ?_
      rintro e w' ⟨rfl, rfl⟩
      go_wp2_with fail
      refine (nan_at h1 NA).mono ?_
      rintro e w' ⟨rfl, rfl⟩
      go_wp2_with fail
      refine (nan_at h2 NB).mono ?_
      rintro e w' ⟨rfl, rfl⟩
      go_wp2_with fail
      refine (nan_at h3 NC).mono ?_
      rintro e w' ⟨rfl, rfl⟩
      go_wp2_with fail
      refine (mul0_at h1 h2 HM).mono ?_
      rintro e W1 ⟨rfl, hC⟩
      have hB1 := hB0.trans (hC.mono hz0)
      have hz1 := hB1.size
      clear hC hB0 hz0
      go_wp2_with fail
      refine (nan_at HML NM).mono ?_
      rintro e w' ⟨rfl, rfl⟩
      go_wp2_with fail
      refine (inf_at h3 IC).mono ?_
      rintro e w' ⟨rfl, rfl⟩
      go_wp2_with fail
      refine (rsign_any sn _).mono ?_
      rintro e w' ⟨rfl, rfl⟩
      go_wp2
      go_ret
      exact ⟨by rw [HE.out]; try rfl, hB1⟩
    · have IC := Lib.hid hic
      by_cases hcI : c = I
      · have HE : Hid (fmaP way a b c = I) := Lib.hid (by unfold fmaP; rw [if_neg hno, if_pos (.inr hib), if_neg (by rw [SN.out, hI]; simp [hcI]), SN.out]; exact hI)
        have bcI : ((c : Int) != (I : Int)) = false := by rw [hcI]; simp
        clear hna hnb hnc hnm hm hia hib hno hic hI hcI
        go_enter Try.func62, Try.ntmps62
        have hB0 := Below.refl w.heap.size w
        have hz0 := hB0.size
        go_wp2_with fail
        refine (inf_at h1 IA).mono ?_
        rintro e w' ⟨rfl, rfl⟩
        go_wp2_with fail
        refine (inf_at h2 IB).mono ?_
        rintro e w' ⟨rfl, rfl⟩
        go_wp2_with fail
        refine (nan_at h1 NA).mono ?_
        rintro e w' ⟨rfl, rfl⟩
        go_wp2_with fail
        refine (nan_at h2 NB).mono ?_
        rintro e w' ⟨rfl, rfl⟩
        go_wp2_with fail
        refine (nan_at h3 NC).mono ?_
        rintro e w' ⟨rfl, rfl⟩
        go_wp2_with fail
        refine (mul0_at h1 h2 HM).mono ?_
        rintro e W1 ⟨rfl, hC⟩
        have hB1 := hB0.trans (hC.mono hz0)
        have hz1 := hB1.size
        clear hC hB0 hz0
        go_wp2_with fail
        refine (nan_at HML NM).mono ?_
        rintro e w' ⟨rfl, rfl⟩
        go_wp2_with fail
        refine (inf_at h3 IC).mono ?_
        rintro e w' ⟨rfl, rfl⟩
        go_wp2_with fail
        refine (rsign_any sn _).mono ?_
        rintro e w' ⟨rfl, rfl⟩
        go_wp2_with fail
        refine (rsign_any sn _).mono ?_
        rintro e w' ⟨rfl, rfl⟩
        go_wp2
        go_ret
        exact ⟨by rw [HE.out]; try rfl, hB1⟩
      · have HE : Hid (fmaP way a b c = 2143289344) := Lib.hid (by unfold fmaP; rw [if_neg hno, if_pos (.inr hib), if_pos ⟨hic, by rw [SN.out, hI]; exact hcI⟩])
        have bcI : ((c : Int) != (I : Int)) = true := by rw [bne_iff_ne]; omega
        clear hna hnb hnc hnm hm hia hib hno hic hI hcI
        go_enter Try.func62, Try.ntmps62
        have hB0 := Below.refl w.heap.size w
        have hz0 := hB0.size
        go_wp2_with fail
        refine (inf_at h1 IA).mono ?_
        rintro e w' ⟨rfl, rfl⟩
        go_wp2_with fail
        refine (inf_at h2 IB).mono ?_
        rintro e w' ⟨rfl, rfl⟩
        go_wp2_with fail
        refine (nan_at h1 NA).mono ?_
        rintro e w' ⟨rfl, rfl⟩
        go_wp2_with fail
        refine (nan_at h2 NB).mono ?_
        rintro e w' ⟨rfl, rfl⟩
        go_wp2_with fail
        refine (nan_at h3 NC).mono ?_
        rintro e w' ⟨rfl, rfl⟩
        go_wp2_with fail
        refine (mul0_at h1 h2 HM).mono ?_
        rintro e W1 ⟨rfl, hC⟩
        have hB1 := hB0.trans (hC.mono hz0)
        have hz1 := hB1.size
        clear hC hB0 hz0
        go_wp2_with fail
        refine (nan_at HML NM).mono ?_
        rintro e w' ⟨rfl, rfl⟩
        go_wp2_with fail
        refine (inf_at h3 IC).mono ?_
        rintro e w' ⟨rfl, rfl⟩
        go_wp2_with fail
        refine (rsign_any sn _).mono ?_
        rintro e w' ⟨rfl, rfl⟩
        go_wp2
        go_ret
        exact ⟨by rw [HE.out]; try rfl, hB1⟩
  have IB := Lib.hid hib
  have hno2 : ¬ (infP a = true ∨ infP b = true) := by rw [hia, hib]; simp
  cases hic : infP c
  case true =>
    have IC := Lib.hid hic
    have HE : Hid (fmaP way a b c = c) := Lib.hid (by unfold fmaP; rw [if_neg hno, if_neg hno2, if_pos hic])
    clear hna hnb hnc hnm hm hia hib hno hno2 hic hI
    go_enter Try.func62, Try.ntmps62
    have hB0 := Below.refl w.heap.size w
    have hz0 := hB0.size
    go_wp2_with fail
    refine (inf_at h1 IA).mono ?_
    rintro e w' ⟨rfl, rfl⟩
    go_wp2_with fail
    refine (inf_at h2 IB).mono ?_
    rintro e w' ⟨rfl, rfl⟩
    go_wp2_with fail
    refine (nan_at h1 NA).mono ?_
    rintro e w' ⟨rfl, rfl⟩
    go_wp2_with fail
    refine (nan_at h2 NB).mono ?_
    rintro e w' ⟨rfl, rfl⟩
    go_wp2_with fail
    refine (nan_at h3 NC).mono ?_
    rintro e w' ⟨rfl, rfl⟩
    go_wp2_with fail
    refine (mul0_at h1 h2 HM).mono ?_
    rintro e W1 ⟨rfl, hC⟩
    have hB1 := hB0.trans (hC.mono hz0)
    have hz1 := hB1.size
    clear hC hB0 hz0
    go_wp2_with fail
    refine (nan_at HML NM).mono ?_
    rintro e w' ⟨rfl, rfl⟩
    go_wp2_with fail
    refine (inf_at h3 IC).mono ?_
    rintro e w' ⟨rfl, rfl⟩
    go_wp2
    go_ret
    exact ⟨by rw [HE.out]; try rfl, hB1⟩
  have IC := Lib.hid hic
  have HE0 : Hid (fmaP way a b c = finP way sn c (oE a + oE b) (oS a * oS b) (oN c) (oE c) (oS c)) := Lib.hid (by unfold fmaP; rw [if_neg hno, if_neg hno2, if_neg (by rw [hic]; simp), SN.out])
  obtain ⟨ox1, ox2, ox3⟩ := o_bounds a
  obtain ⟨oy1, oy2, oy3⟩ := o_bounds b
  obtain ⟨oz1, oz2, oz3⟩ := o_bounds c
  obtain ⟨xe, hxe⟩ : ∃ x, oE a = x := ⟨_, rfl⟩
  obtain ⟨xs, hxs⟩ : ∃ x, oS a = x := ⟨_, rfl⟩
  obtain ⟨ye, hye⟩ : ∃ x, oE b = x := ⟨_, rfl⟩
  obtain ⟨ys, hys⟩ : ∃ x, oS b = x := ⟨_, rfl⟩
  obtain ⟨ze, hze⟩ : ∃ x, oE c = x := ⟨_, rfl⟩
  obtain ⟨zs, hzs⟩ : ∃ x, oS c = x := ⟨_, rfl⟩
  obtain ⟨zn, hzn⟩ : ∃ x, oN c = x := ⟨_, rfl⟩
  rw [hxe, hxs, hye, hys, hze, hzs, hzn] at HE0
  rw [hxe] at ox2 ox3
  rw [hxs] at ox1
  rw [hye] at oy2 oy3
  rw [hys] at oy1
  rw [hze] at oz2 oz3
  rw [hzs] at oz1
  have HXE := Lib.hid hxe
  have HXS := Lib.hid hxs
  have HYE := Lib.hid hye
  have HYS := Lib.hid hys
  have HZE := Lib.hid hze
  have HZS := Lib.hid hzs
  have HZN := Lib.hid hzn
  obtain ⟨P, hP⟩ : ∃ x, xs * ys = x := ⟨_, rfl⟩
  have hpr : P < 281474976710656 := by
    have h1 := Nat.mul_le_mul (show xs ≤ 16777215 by omega) (show ys ≤ 16777215 by omega)
    omega
  have hmulc : (xs : Int) * (ys : Int) = (P : Int) := by rw [← Int.natCast_mul, hP]
  rw [hP] at HE0
  clear hna hnb hnc hnm hm hia hib hno hno2 hic hI hxe hxs hye hys hze hzs hzn hP hor I
  by_cases hp0 : P = 0
  case pos =>
    have bp : ((P : Int) == 0) = true := int_eq (y := 0) hp0
    by_cases hz0 : zs = 0
    · have bz : ((zs : Int) == 0) = true := int_eq (y := 0) hz0
      by_cases hzn : zn = sn
      · have bn : (zn == sn) = true := by rw [hzn]; simp
        have HE : Hid (fmaP way a b c = c) := Lib.hid (by rw [HE0.out, finP, if_pos ⟨hp0, hz0⟩, if_pos hzn])
        clear HE0 hp0 hz0 hzn
        go_enter Try.func62, Try.ntmps62
        have hB0 := Below.refl w.heap.size w
        have hz0 := hB0.size
        go_wp2_with fail
        refine (inf_at h1 IA).mono ?_
        rintro e w' ⟨rfl, rfl⟩
        go_wp2_with fail
        refine (inf_at h2 IB).mono ?_
        rintro e w' ⟨rfl, rfl⟩
        go_wp2_with fail
        refine (nan_at h1 NA).mono ?_
        rintro e w' ⟨rfl, rfl⟩
        go_wp2_with fail
        refine (nan_at h2 NB).mono ?_
        rintro e w' ⟨rfl, rfl⟩
        go_wp2_with fail
        refine (nan_at h3 NC).mono ?_
        rintro e w' ⟨rfl, rfl⟩
        go_wp2_with fail
        refine (mul0_at h1 h2 HM).mono ?_
        rintro e W1 ⟨rfl, hC⟩
        have hB1 := hB0.trans (hC.mono hz0)
        have hz1 := hB1.size
        clear hC hB0 hz0
        go_wp2_with fail
        refine (nan_at HML NM).mono ?_
        rintro e w' ⟨rfl, rfl⟩
        go_wp2_with fail
        refine (inf_at h3 IC).mono ?_
        rintro e w' ⟨rfl, rfl⟩
        go_wp2_with fail
        refine (ropen_any a _ h1).mono ?_
        rintro e W2 ⟨rfl, hC⟩
        have hB2 := hB1.trans (hC.mono hz1)
        have hz2 := hB2.size
        clear hC hB1 hz1
        go_wp2_with fail
        refine (ropen_any b _ h2).mono ?_
        rintro e W3 ⟨rfl, hC⟩
        have hB3 := hB2.trans (hC.mono hz2)
        have hz3 := hB3.size
        clear hC hB2 hz2
        go_wp2_with fail
        refine (ropen_any c _ h3).mono ?_
        rintro e W4 ⟨rfl, hC⟩
        have hB4 := hB3.trans (hC.mono hz3)
        have hz4 := hB4.size
        clear hC hB3 hz3
        simp only [HXE.out, HXS.out, HYE.out, HYS.out, HZN.out, HZE.out, HZS.out]
        go_wp2
        go_ret
        exact ⟨by rw [HE.out]; try rfl, ((((hB4.alloc hz4 _).alloc (by simp; omega) _).alloc (by simp; omega) _).alloc (by simp; omega) _)⟩
      · have bn : (zn == sn) = false := by rw [beq_eq_false_iff_ne]; exact hzn
        have HE : Hid (fmaP way a b c = sgn (way == 2)) := Lib.hid (by rw [HE0.out, finP, if_pos ⟨hp0, hz0⟩, if_neg hzn])
        clear HE0 hp0 hz0 hzn
        go_enter Try.func62, Try.ntmps62
        have hB0 := Below.refl w.heap.size w
        have hz0 := hB0.size
        go_wp2_with fail
        refine (inf_at h1 IA).mono ?_
        rintro e w' ⟨rfl, rfl⟩
        go_wp2_with fail
        refine (inf_at h2 IB).mono ?_
        rintro e w' ⟨rfl, rfl⟩
        go_wp2_with fail
        refine (nan_at h1 NA).mono ?_
        rintro e w' ⟨rfl, rfl⟩
        go_wp2_with fail
        refine (nan_at h2 NB).mono ?_
        rintro e w' ⟨rfl, rfl⟩
        go_wp2_with fail
        refine (nan_at h3 NC).mono ?_
        rintro e w' ⟨rfl, rfl⟩
        go_wp2_with fail
        refine (mul0_at h1 h2 HM).mono ?_
        rintro e W1 ⟨rfl, hC⟩
        have hB1 := hB0.trans (hC.mono hz0)
        have hz1 := hB1.size
        clear hC hB0 hz0
        go_wp2_with fail
        refine (nan_at HML NM).mono ?_
        rintro e w' ⟨rfl, rfl⟩
        go_wp2_with fail
        refine (inf_at h3 IC).mono ?_
        rintro e w' ⟨rfl, rfl⟩
        go_wp2_with fail
        refine (ropen_any a _ h1).mono ?_
        rintro e W2 ⟨rfl, hC⟩
        have hB2 := hB1.trans (hC.mono hz1)
        have hz2 := hB2.size
        clear hC hB1 hz1
        go_wp2_with fail
        refine (ropen_any b _ h2).mono ?_
        rintro e W3 ⟨rfl, hC⟩
        have hB3 := hB2.trans (hC.mono hz2)
        have hz3 := hB3.size
        clear hC hB2 hz2
        go_wp2_with fail
        refine (ropen_any c _ h3).mono ?_
        rintro e W4 ⟨rfl, hC⟩
        have hB4 := hB3.trans (hC.mono hz3)
        have hz4 := hB4.size
        clear hC hB3 hz3
        simp only [HXE.out, HXS.out, HYE.out, HYS.out, HZN.out, HZE.out, HZS.out]
        go_wp2_with fail
        refine (rsign_any _ _).mono ?_
        rintro e w' ⟨rfl, rfl⟩
        go_wp2
        go_ret
        exact ⟨by rw [HE.out]; try rfl, ((((hB4.alloc hz4 _).alloc (by simp; omega) _).alloc (by simp; omega) _).alloc (by simp; omega) _)⟩
    · have bz : ((zs : Int) == 0) = false := int_ne (y := 0) hz0
      have HE : Hid (fmaP way a b c = c) := Lib.hid (by rw [HE0.out, finP, if_neg (by omega), if_pos hp0])
      clear HE0 hp0 hz0
      go_enter Try.func62, Try.ntmps62
      have hB0 := Below.refl w.heap.size w
      have hz0 := hB0.size
      go_wp2_with fail
      refine (inf_at h1 IA).mono ?_
      rintro e w' ⟨rfl, rfl⟩
      go_wp2_with fail
      refine (inf_at h2 IB).mono ?_
      rintro e w' ⟨rfl, rfl⟩
      go_wp2_with fail
      refine (nan_at h1 NA).mono ?_
      rintro e w' ⟨rfl, rfl⟩
      go_wp2_with fail
      refine (nan_at h2 NB).mono ?_
      rintro e w' ⟨rfl, rfl⟩
      go_wp2_with fail
      refine (nan_at h3 NC).mono ?_
      rintro e w' ⟨rfl, rfl⟩
      go_wp2_with fail
      refine (mul0_at h1 h2 HM).mono ?_
      rintro e W1 ⟨rfl, hC⟩
      have hB1 := hB0.trans (hC.mono hz0)
      have hz1 := hB1.size
      clear hC hB0 hz0
      go_wp2_with fail
      refine (nan_at HML NM).mono ?_
      rintro e w' ⟨rfl, rfl⟩
      go_wp2_with fail
      refine (inf_at h3 IC).mono ?_
      rintro e w' ⟨rfl, rfl⟩
      go_wp2_with fail
      refine (ropen_any a _ h1).mono ?_
      rintro e W2 ⟨rfl, hC⟩
      have hB2 := hB1.trans (hC.mono hz1)
      have hz2 := hB2.size
      clear hC hB1 hz1
      go_wp2_with fail
      refine (ropen_any b _ h2).mono ?_
      rintro e W3 ⟨rfl, hC⟩
      have hB3 := hB2.trans (hC.mono hz2)
      have hz3 := hB3.size
      clear hC hB2 hz2
      go_wp2_with fail
      refine (ropen_any c _ h3).mono ?_
      rintro e W4 ⟨rfl, hC⟩
      have hB4 := hB3.trans (hC.mono hz3)
      have hz4 := hB4.size
      clear hC hB3 hz3
      simp only [HXE.out, HXS.out, HYE.out, HYS.out, HZN.out, HZE.out, HZS.out]
      go_wp2
      go_ret
      exact ⟨by rw [HE.out]; try rfl, ((((hB4.alloc hz4 _).alloc (by simp; omega) _).alloc (by simp; omega) _).alloc (by simp; omega) _)⟩
  have bp : ((P : Int) == 0) = false := int_ne (y := 0) hp0
  by_cases hz0 : zs = 0
  case pos =>
    have bz : ((zs : Int) == 0) = true := int_eq (y := 0) hz0
    have HE : Hid (fmaP way a b c = roundP way sn (xe + ye) P false) := Lib.hid (by rw [HE0.out, finP, if_neg (by omega), if_neg hp0, if_pos hz0])
    clear HE0 hp0 hz0
    go_enter Try.func62, Try.ntmps62
    have hB0 := Below.refl w.heap.size w
    have hz0 := hB0.size
    go_wp2_with fail
    refine (inf_at h1 IA).mono ?_
    rintro e w' ⟨rfl, rfl⟩
    go_wp2_with fail
    refine (inf_at h2 IB).mono ?_
    rintro e w' ⟨rfl, rfl⟩
    go_wp2_with fail
    refine (nan_at h1 NA).mono ?_
    rintro e w' ⟨rfl, rfl⟩
    go_wp2_with fail
    refine (nan_at h2 NB).mono ?_
    rintro e w' ⟨rfl, rfl⟩
    go_wp2_with fail
    refine (nan_at h3 NC).mono ?_
    rintro e w' ⟨rfl, rfl⟩
    go_wp2_with fail
    refine (mul0_at h1 h2 HM).mono ?_
    rintro e W1 ⟨rfl, hC⟩
    have hB1 := hB0.trans (hC.mono hz0)
    have hz1 := hB1.size
    clear hC hB0 hz0
    go_wp2_with fail
    refine (nan_at HML NM).mono ?_
    rintro e w' ⟨rfl, rfl⟩
    go_wp2_with fail
    refine (inf_at h3 IC).mono ?_
    rintro e w' ⟨rfl, rfl⟩
    go_wp2_with fail
    refine (ropen_any a _ h1).mono ?_
    rintro e W2 ⟨rfl, hC⟩
    have hB2 := hB1.trans (hC.mono hz1)
    have hz2 := hB2.size
    clear hC hB1 hz1
    go_wp2_with fail
    refine (ropen_any b _ h2).mono ?_
    rintro e W3 ⟨rfl, hC⟩
    have hB3 := hB2.trans (hC.mono hz2)
    have hz3 := hB3.size
    clear hC hB2 hz2
    go_wp2_with fail
    refine (ropen_any c _ h3).mono ?_
    rintro e W4 ⟨rfl, hC⟩
    have hB4 := hB3.trans (hC.mono hz3)
    have hz4 := hB4.size
    clear hC hB3 hz3
    simp only [HXE.out, HXS.out, HYE.out, HYS.out, HZN.out, HZE.out, HZS.out]
    go_wp2_with fail
    refine (round_at (s := P) rfl (by omega) (by omega) (Lib.hid rfl)).mono ?_
    rintro e w' ⟨rfl, rfl⟩
    go_wp2
    go_ret
    exact ⟨by rw [HE.out]; try rfl, ((((hB4.alloc hz4 _).alloc (by simp; omega) _).alloc (by simp; omega) _).alloc (by simp; omega) _)⟩
  have bz : ((zs : Int) == 0) = false := int_ne (y := 0) hz0
  have HE : Hid (fmaP way a b c = sumF way sn (xe + ye) P zn ze zs) := Lib.hid (by rw [HE0.out, finP, if_neg (by omega), if_neg hp0, if_neg hz0])
  have HP : Hid (0 < P ∧ P < 18446744073709551616) := Lib.hid (by omega)
  have HZ : Hid (0 < zs ∧ zs < 18446744073709551616) := Lib.hid (by omega)
  clear HE0 hp0 hz0
  go_enter Try.func62, Try.ntmps62
  have hB0 := Below.refl w.heap.size w
  have hz0 := hB0.size
  go_wp2_with fail
  refine (inf_at h1 IA).mono ?_
  rintro e w' ⟨rfl, rfl⟩
  go_wp2_with fail
  refine (inf_at h2 IB).mono ?_
  rintro e w' ⟨rfl, rfl⟩
  go_wp2_with fail
  refine (nan_at h1 NA).mono ?_
  rintro e w' ⟨rfl, rfl⟩
  go_wp2_with fail
  refine (nan_at h2 NB).mono ?_
  rintro e w' ⟨rfl, rfl⟩
  go_wp2_with fail
  refine (nan_at h3 NC).mono ?_
  rintro e w' ⟨rfl, rfl⟩
  go_wp2_with fail
  refine (mul0_at h1 h2 HM).mono ?_
  rintro e W1 ⟨rfl, hC⟩
  have hB1 := hB0.trans (hC.mono hz0)
  have hz1 := hB1.size
  clear hC hB0 hz0
  go_wp2_with fail
  refine (nan_at HML NM).mono ?_
  rintro e w' ⟨rfl, rfl⟩
  go_wp2_with fail
  refine (inf_at h3 IC).mono ?_
  rintro e w' ⟨rfl, rfl⟩
  go_wp2_with fail
  refine (ropen_any a _ h1).mono ?_
  rintro e W2 ⟨rfl, hC⟩
  have hB2 := hB1.trans (hC.mono hz1)
  have hz2 := hB2.size
  clear hC hB1 hz1
  go_wp2_with fail
  refine (ropen_any b _ h2).mono ?_
  rintro e W3 ⟨rfl, hC⟩
  have hB3 := hB2.trans (hC.mono hz2)
  have hz3 := hB3.size
  clear hC hB2 hz2
  go_wp2_with fail
  refine (ropen_any c _ h3).mono ?_
  rintro e W4 ⟨rfl, hC⟩
  have hB4 := hB3.trans (hC.mono hz3)
  have hz4 := hB4.size
  clear hC hB3 hz3
  simp only [HXE.out, HXS.out, HYE.out, HYS.out, HZN.out, HZE.out, HZS.out]
  go_wp2_with fail
  refine (sum_any HP HZ (by omega) (by omega) (Lib.hid rfl)).mono ?_
  rintro e W5 ⟨rfl, hC⟩
  have hB5 := ((((hB4.alloc hz4 _).alloc (by simp; omega) _).alloc (by simp; omega) _).alloc (by simp; omega) _).trans (hC.mono (by simp; omega))
  go_wp2
  go_ret
  exact ⟨by rw [HE.out]; try rfl, hB5⟩
end Go.Proofs.Ytegeadkilolngaa

/- The contracts of round.root, round.SqrtBy and round.Sqrt. -/
namespace Go.Proofs.Ytegeadkilolngaa
open Go.RowKit

/-- the greatest number up to k whose square is not above n -/
def rtN (n : Nat) : Nat → Nat
  | 0 => 0
  | k + 1 => if (k + 1) * (k + 1) ≤ n then k + 1 else rtN n k
theorem rtN_is (n : Nat) : ∀ k, rtN n k ≤ k ∧ rtN n k * rtN n k ≤ n ∧ (rtN n k < k → n < (rtN n k + 1) * (rtN n k + 1))
  | 0 => ⟨Nat.le_refl _, by simp [rtN], fun h => absurd h (Nat.not_lt_zero _)⟩
  | k + 1 => by
    unfold rtN
    split
    · rename_i h; exact ⟨Nat.le_refl _, h, fun h => absurd h (Nat.lt_irrefl _)⟩
    · rename_i h
      obtain ⟨h1, h2, h3⟩ := rtN_is n k
      refine ⟨by omega, h2, fun _ => ?_⟩
      by_cases e : rtN n k < k
      · exact h3 e
      · rw [show rtN n k = k from by omega]; omega
def rt (n : Nat) : Nat := rtN n 4294967296
theorem rt_eq {n r : Nat} (h1 : r * r ≤ n) (h2 : n < (r + 1) * (r + 1)) (h : n < 18446744073709551616) : rt n = r := by
  obtain ⟨a1, a2, a3⟩ := rtN_is n 4294967296
  have hlt : rtN n 4294967296 < 4294967296 := by
    rcases Nat.lt_or_ge (rtN n 4294967296) 4294967296 with hh | hh
    · exact hh
    · have := Nat.mul_self_le_mul_self hh
      omega
  have h3 := a3 hlt
  unfold rt
  by_cases e1 : rtN n 4294967296 < r
  · have := Nat.mul_self_le_mul_self (show rtN n 4294967296 + 1 ≤ r from e1)
    omega
  · by_cases e2 : r < rtN n 4294967296
    · have := Nat.mul_self_le_mul_self (show r + 1 ≤ rtN n 4294967296 from e2)
      omega
    · omega
theorem rt_is {n : Nat} (h : n < 18446744073709551616) : rt n * rt n ≤ n ∧ n < (rt n + 1) * (rt n + 1) ∧ rt n < 4294967296 := by
  obtain ⟨a1, a2, a3⟩ := rtN_is n 4294967296
  have hlt : rtN n 4294967296 < 4294967296 := by
    rcases Nat.lt_or_ge (rtN n 4294967296) 4294967296 with hh | hh
    · exact hh
    · have := Nat.mul_self_le_mul_self hh
      omega
  exact ⟨a2, a3 hlt, hlt⟩
def bitV (j : Nat) : Nat := if j = 0 then 0 else two (j - 1)
def RTrel (n : Nat) (w : World) (rv bv : Value) (wr : World) : Prop := ∃ j R : Nat, rv = .int .u64 (R : Int) ∧ bv = .int .u64 (bitV j : Int) ∧ j ≤ 32 ∧ Hid (∃ q, R = q * two j) ∧ Hid (R * R ≤ n) ∧ Hid (n < (R + two j) * (R + two j)) ∧ Hid (R + two j ≤ 4294967296) ∧ wr = w
theorem root_bits {q j : Nat} (h : q * two (j + 1) + two (j + 1) ≤ 4294967296) : bits .or .u64 ((q * two (j + 1) : Nat) : Int) ((two j : Nat) : Int) = (((2 * q + 1) * two j : Nat) : Int) := by
  have hp := two_pos j
  have hs := two_succ j
  have e := Nat.two_pow_add_eq_or_of_lt (i := j + 1) (b := two j) (by show two j < two (j + 1); omega) q
  have := bits_or_u64_nat (q * two (j + 1)) (two j) (by omega) (by omega)
  rw [this]
  congr 1
  rw [Nat.mul_comm q]
  show 2 ^ (j + 1) * q ||| two j = _
  rw [← e]
  show two (j + 1) * q + two j = _
  rw [hs, Nat.add_mul, Nat.one_mul, Nat.mul_right_comm]

end Go.Proofs.Ytegeadkilolngaa

/- The contracts of round.SqrtBy and round.Sqrt. -/
namespace Go.Proofs.Ytegeadkilolngaa
open Go.RowKit

theorem i64_and1 (n : Int) : bits .and .i64 n 1 = n % 2 := by
  have h127 : (BitVec.ofInt 64 1).toNat = 2 ^ 1 - 1 := by decide
  have key : (BitVec.ofInt 64 n &&& BitVec.ofInt 64 1).toNat = (n % ((2 ^ 64 : Nat) : Int)).toNat % 2 ^ 1 := by
    rw [BitVec.toNat_and, BitVec.toNat_ofInt, h127, Nat.and_two_pow_sub_one_eq_mod]
  show IntKind.i64.wrap ((BitVec.ofInt 64 n &&& BitVec.ofInt 64 1).toNat : Nat) = n % 2
  rw [key, IntKind.wrap_i64]
  omega
def sqK (s : Nat) (e : Int) : Nat := if (e - ((62 - blen s : Nat) : Int)) % 2 = 1 then 62 - blen s + 1 else 62 - blen s
def sqH (s : Nat) (e : Int) : Int := (e - (sqK s e : Int)) / 2
def sqM (way : Int) (s : Nat) (e : Int) : Nat := roundP way false (sqH s e) (rt (s * two (sqK s e))) (decide (rt (s * two (sqK s e)) * rt (s * two (sqK s e)) ≠ s * two (sqK s e)))
/-- a root, as its code has it -/
def sqrtP (way : Int) (a : Nat) : Nat :=
  if nanP a = true then 2143289344 else if absP a = 0 then a else if 2147483648 ≤ a then 2143289344 else if infP a = true then a else sqM way (oS a) (oE a)
theorem sq_even (s : Nat) (e : Int) : e - (sqK s e : Int) = 2 * sqH s e := by
  have : (e - (sqK s e : Int)) % 2 = 0 := by
    unfold sqK
    split <;> omega
  unfold sqH
  omega
theorem sq_n {s : Nat} {e : Int} (h0 : 0 < s) (h : s < 16777216) : s * two (sqK s e) < 9223372036854775808 ∧ 2305843009213693952 ≤ s * two (sqK s e) ∧ 38 ≤ sqK s e ∧ sqK s e ≤ 62 := by
  have h1 := blen_le h0
  have h2 := blen_lt s
  have h3 := blen_pos h0
  have h4 : blen s ≤ 24 := by
    by_cases hh : blen s ≤ 24
    · exact hh
    · have := two_le (show 24 ≤ blen s - 1 by omega)
      rw [two_24] at this
      omega
  have hk : sqK s e ≤ 62 - blen s + 1 ∧ 62 - blen s ≤ sqK s e := by unfold sqK; split <;> omega
  obtain ⟨k, hkk⟩ : ∃ k, sqK s e = k := ⟨_, rfl⟩
  rw [hkk] at hk ⊢
  have h5 : s * two k < two (blen s) * two k := Nat.mul_lt_mul_of_pos_right h2 (two_pos _)
  have h6 : two (blen s - 1) * two k ≤ s * two k := Nat.mul_le_mul_right _ h1
  rw [← two_add] at h5 h6
  have h7 := two_le (show blen s + k ≤ 63 by omega)
  have h8 := two_le (show 61 ≤ blen s - 1 + k by omega)
  have e1 : two 63 = 9223372036854775808 := rfl
  have e2 : two 61 = 2305843009213693952 := rfl
  omega

/-- the root is the one that the document searches for -/
theorem sqrt_law {way : Int} {a m : Nat} (h0 : absP a ≠ 0) (h1 : absP a < 2139095040) (hm : IsRt (two 149 * amt (absP a)) m) : sqM way (oS a) (oE a) = rootM way (two 149 * amt (absP a)) m := by
  have hs0 : 0 < oS a := by
    rcases Nat.eq_zero_or_pos (oS a) with h | h
    · exact absurd (o_nil.1 h) h0
    · exact h
  obtain ⟨ob1, ob2, ob3⟩ := o_bounds a
  have ob4 := o_fin h1
  have hamt := ofin_amt (a := a)
  obtain ⟨s, hss⟩ : ∃ s, oS a = s := ⟨_, rfl⟩
  obtain ⟨e, hee⟩ : ∃ e, oE a = e := ⟨_, rfl⟩
  rw [hss, hee] at hamt ⊢
  rw [hss] at hs0 ob1
  rw [hee] at ob2 ob4
  obtain ⟨hn1, hn2, hk1, hk2⟩ := sq_n (e := e) hs0 ob1
  have hev := sq_even s e
  unfold sqM
  obtain ⟨k, hk⟩ : ∃ k, sqK s e = k := ⟨_, rfl⟩
  obtain ⟨hh, hhh⟩ : ∃ k, sqH s e = k := ⟨_, rfl⟩
  rw [hk] at hn1 hn2 hk1 hk2 hev ⊢
  rw [hhh] at hev ⊢
  obtain ⟨r1, r2, r3⟩ := rt_is (n := s * two k) (by omega)
  obtain ⟨g, hg⟩ : ∃ g : Nat, hh = (g : Int) - 149 := ⟨(hh + 149).toNat, by omega⟩
  have hN : two 149 * amt (absP a) = s * two k * (two g * two g) := by
    rw [← hamt, Nat.mul_left_comm, Nat.mul_assoc, ← two_add, ← two_add, ← two_add]
    congr 2
    omega
  rw [hN] at hm ⊢
  rw [hg]
  refine root_law r1 r2 ?_ r3 (by omega) hm
  rcases Nat.lt_or_ge (rt (s * two k)) 33554432 with hlt | hge
  · have := sq_le (show rt (s * two k) + 1 ≤ 33554432 from hlt)
    omega
  · exact hge
end Go.Proofs.Ytegeadkilolngaa

/- The contracts of round.FromIntBy, FromInt, ToInt, Scale. -/
namespace Go.Proofs.Ytegeadkilolngaa
open Go.RowKit

/-- a whole number, rounded -/
def fromP (way : Int) (n : Int) : Nat := roundP way (decide (n < 0)) 0 n.natAbs false
theorem from_any (way n : Int) (w : World) (h : -9223372036854775808 ≤ n ∧ n ≤ 9223372036854775807) :
    Calls Try.prog 68 #[.int .i64 way, .int .i64 n] w fun e w' => e = .returned (.int .u32 (fromP way n : Int)) ∧ w' = w := by
  by_cases hn : n < 0
  · obtain ⟨m, hm⟩ : ∃ m : Nat, n = -(m : Int) := ⟨n.natAbs, by omega⟩
    obtain ⟨c, hc⟩ : ∃ c : Nat, 18446744073709551616 - m = c := ⟨_, rfl⟩
    have hw1 : IntKind.u64.wrap (-(m : Int)) = (c : Int) := by rw [IntKind.wrap_u64]; omega
    have hw2 : IntKind.u64.wrap (-(c : Int)) = (m : Int) := by rw [IntKind.wrap_u64]; omega
    have HE : Hid (fromP way n = roundP way true 0 m false) := Lib.hid (by unfold fromP; rw [decide_eq_true hn]; congr 1; omega)
    have hm64 : m < 18446744073709551616 := by omega
    have HM := Lib.hid hm64
    subst hm
    clear h hc hm64
    go_enter Try.func68, Try.ntmps68
    go_wp2_with fail
    refine (round_at (s := m) rfl HM.out (by omega) (Lib.hid rfl)).mono ?_
    rintro e w' ⟨rfl, rfl⟩
    go_wp2
    go_ret
    exact ⟨by rw [HE.out]; try rfl, rfl⟩
  · obtain ⟨m, hm⟩ : ∃ m : Nat, n = (m : Int) := ⟨n.natAbs, by omega⟩
    have HE : Hid (fromP way n = roundP way false 0 m false) := Lib.hid (by unfold fromP; rw [decide_eq_false hn]; congr 1; omega)
    have hm64 : m < 18446744073709551616 := by omega
    have HM := Lib.hid hm64
    have hw1 : IntKind.u64.wrap (m : Int) = (m : Int) := wrap64_nat hm64
    subst hm
    clear h hm64
    go_enter Try.func68, Try.ntmps68
    go_wp2_with fail
    refine (round_at (s := m) rfl HM.out (by omega) (Lib.hid rfl)).mono ?_
    rintro e w' ⟨rfl, rfl⟩
    go_wp2
    go_ret
    exact ⟨by rw [HE.out]; try rfl, rfl⟩
theorem from0_any (n : Int) (w : World) (h : -9223372036854775808 ≤ n ∧ n ≤ 9223372036854775807) :
    Calls Try.prog 47 #[.int .i64 n] w fun e w' => e = .returned (.int .u32 (fromP 0 n : Int)) ∧ w' = w := by
  go_enter Try.func47, Try.ntmps47
  go_wp2_with fail
  refine (from_any 0 n _ h).mono ?_
  rintro e w' ⟨rfl, rfl⟩
  go_wp2
  go_ret
  exact ⟨rfl, rfl⟩
/-- the amount without its broken part, of one that is below 2^63 -/
def cutA (a : Nat) : Nat := if 0 ≤ oE a then oS a * two (oE a).toNat else oS a / two (-oE a).toNat
def toIntP (a : Nat) : Int :=
  if nanP a = true then 0 else if 1593835520 ≤ absP a then (if oN a = true then -9223372036854775808 else 9223372036854775807)
  else if oN a = true then -(cutA a : Int) else (cutA a : Int)
theorem cutA_lt {a : Nat} (h : absP a < 1593835520) : cutA a < 9223372036854775808 := by
  obtain ⟨ob1, ob2, ob3⟩ := o_bounds a
  have he : oE a ≤ 39 := by
    unfold oE absP at *
    split <;> omega
  unfold cutA
  split
  · have h1 := two_le (show (oE a).toNat ≤ 39 by omega)
    have h2 : oS a * two (oE a).toNat ≤ 16777215 * two 39 := Nat.mul_le_mul (by omega) h1
    have h3 : two 39 = 549755813888 := rfl
    omega
  · have := Nat.div_le_self (oS a) (two (-oE a).toNat)
    omega
set_option maxRecDepth 100000 in
set_option maxHeartbeats 1600000 in
theorem toint_any (a : Nat) (w : World) (h : Hid (a < 4294967296)) :
    Calls Try.prog 44 #[.int .u32 (a : Int)] w fun e w' => e = .returned (.int .i64 (toIntP a)) ∧ Below w.heap.size w w' := by
  have HAB : Hid (∀ w, Calls Try.prog 29 #[.int .u32 (a : Int)] w fun e w' => e = .returned (.int .u32 (absP a : Int)) ∧ w' = w) := Lib.hid fun w => abs_any a w h.out
  cases hna : nanP a
  case true =>
    have NA := Lib.hid hna
    have HE : Hid (toIntP a = 0) := Lib.hid (by unfold toIntP; rw [if_pos hna])
    clear hna
    go_enter Try.func44, Try.ntmps44
    go_wp2_with fail
    refine (nan_at h NA).mono ?_
    rintro e w' ⟨rfl, rfl⟩
    go_wp2
    go_ret
    exact ⟨by rw [HE.out]; try rfl, Below.refl _ _⟩
  have NA := Lib.hid hna
  have hno : ¬ nanP a = true := by rw [hna]; decide
  obtain ⟨x, hx⟩ : ∃ x, absP a = x := ⟨_, rfl⟩
  obtain ⟨nb, hnb⟩ : ∃ x, oN a = x := ⟨_, rfl⟩
  have HX := Lib.hid hx
  have HNB := Lib.hid hnb
  by_cases hbig : 1593835520 ≤ x
  case pos =>
    have HE : Hid (toIntP a = if nb = true then -9223372036854775808 else 9223372036854775807) := Lib.hid (by unfold toIntP; rw [if_neg hno, if_pos (by rw [hx]; exact hbig), hnb])
    have hbig' : (1593835520 : Int) ≤ (x : Int) := by omega
    clear hna hno hx hnb hbig
    cases nb
    all_goals
      go_enter Try.func44, Try.ntmps44
      go_wp2_with fail
      refine (nan_at h NA).mono ?_
      rintro e w' ⟨rfl, rfl⟩
      go_wp2_with fail
      refine (ropen_any a _ h).mono ?_
      rintro e w1 ⟨rfl, hB1⟩
      rw [HNB.out]
      go_wp2_with fail
      refine (HAB.out _).mono ?_
      rintro e w' ⟨rfl, rfl⟩
      rw [HX.out]
      go_wp2
      go_ret
      exact ⟨by rw [HE.out]; try rfl, hB1.alloc hB1.size _⟩
  have hbig' : decide ((1593835520 : Int) ≤ (x : Int)) = false := decide_eq_false (by omega)
  have hcl0 := cutA_lt (a := a) (by rw [hx]; omega)
  obtain ⟨ob1, ob2, ob3⟩ := o_bounds a
  obtain ⟨N, hN⟩ : ∃ n, cutA a = n := ⟨_, rfl⟩
  have HE : Hid (toIntP a = if nb = true then -(N : Int) else (N : Int)) := Lib.hid (by unfold toIntP; rw [if_neg hno, if_neg (by rw [hx]; exact hbig), hnb, hN])
  have hcl : N < 9223372036854775808 := by rw [← hN]; exact hcl0
  clear hcl0
  unfold cutA at hN
  obtain ⟨s, hss⟩ : ∃ s, oS a = s := ⟨_, rfl⟩
  obtain ⟨e, hee⟩ : ∃ e, oE a = e := ⟨_, rfl⟩
  rw [hss] at hN ob1
  rw [hee] at hN ob2 ob3
  have HSS := Lib.hid hss
  have HEE0 := Lib.hid hee
  clear hna hno hx hnb hbig hss hee
  have hsw : wrap64 (s : Int) = (s : Int) := IntWalk.wrap64_in _ (by omega)
  have hnw : wrap64 (-(N : Int)) = -(N : Int) := IntWalk.wrap64_in _ (by omega)
  have hsw2 : IntKind.i64.wrap (s : Int) = (s : Int) := IntWalk.i64_in _ (by omega)
  have hnw2 : IntKind.i64.wrap (-(N : Int)) = -(N : Int) := IntWalk.i64_in _ (by omega)
  by_cases he : 0 ≤ e
  · obtain ⟨k, hk⟩ : ∃ k : Nat, e = (k : Int) := ⟨e.toNat, by omega⟩
    rw [if_pos he] at hN
    subst hk
    have hk39 : k ≤ 105 := by omega
    have hN' : s * two k = N := hN
    have hsh : IntKind.i64.wrap ((s : Int) * 2 ^ k) = (N : Int) := by rw [two_cast, ← Int.natCast_mul, hN']; exact IntWalk.i64_in _ (by omega)
    have hsh2 : IntKind.i64.wrap ((s : Int) * 2 ^ min k 64) = (N : Int) := by
      by_cases h64 : k ≤ 64
      · rw [Nat.min_eq_left h64]; exact hsh
      · have h1 := two_le (show 64 ≤ k by omega)
        rw [two_64] at h1
        rcases Nat.eq_zero_or_pos s with h0 | h0
        · subst h0; rw [Nat.zero_mul] at hN'; subst hN'; rw [show ((0 : Nat) : Int) = 0 from rfl, Int.zero_mul]; exact IntWalk.i64_in 0 (by omega)
        · have : 1 * two k ≤ s * two k := Nat.mul_le_mul_right _ h0
          omega
    have HEE := HEE0
    clear hN hN' hcl
    cases nb
    all_goals
      go_enter Try.func44, Try.ntmps44
      go_wp2_with fail
      refine (nan_at h NA).mono ?_
      rintro e' w' ⟨rfl, rfl⟩
      go_wp2_with fail
      refine (ropen_any a _ h).mono ?_
      rintro e' w1 ⟨rfl, hB1⟩
      rw [HNB.out, HSS.out, HEE.out]
      go_wp2_with fail
      refine (HAB.out _).mono ?_
      rintro e' w' ⟨rfl, rfl⟩
      rw [HX.out]
      go_wp2
      go_ret
      exact ⟨by rw [HE.out]; try rfl, hB1.alloc hB1.size _⟩
  · obtain ⟨d, hd⟩ : ∃ d : Nat, e = -(d : Int) := ⟨(-e).toNat, by omega⟩
    rw [if_neg he] at hN
    subst hd
    have hd1 : 1 ≤ d := by omega
    have hd2 : d ≤ 149 := by omega
    have hN' : s / two d = N := by rw [← hN]; congr 2; omega
    have hq : (s : Int) / 2 ^ d = (N : Int) := by rw [quo_cast, hN']
    have hq2 : (s : Int) / 2 ^ min d 64 = (N : Int) := by
      by_cases h64 : d ≤ 64
      · rw [Nat.min_eq_left h64]; exact hq
      · obtain ⟨e1, e2⟩ := mv_small (s := s) (d := 64) (Nat.le_refl _) (by omega)
        obtain ⟨f1, f2⟩ := mv_small (s := s) (d := d) (by omega) (by omega)
        rw [Nat.min_eq_right (by omega), quo_cast, e1, ← hN', f1]
    have HEE := HEE0
    clear hN hN' hcl
    cases nb
    all_goals
      go_enter Try.func44, Try.ntmps44
      go_wp2_with fail
      refine (nan_at h NA).mono ?_
      rintro e' w' ⟨rfl, rfl⟩
      go_wp2_with fail
      refine (ropen_any a _ h).mono ?_
      rintro e' w1 ⟨rfl, hB1⟩
      rw [HNB.out, HSS.out, HEE.out]
      go_wp2_with fail
      refine (HAB.out _).mono ?_
      rintro e' w' ⟨rfl, rfl⟩
      rw [HX.out]
      go_wp2
      go_ret
      exact ⟨by rw [HE.out]; try rfl, hB1.alloc hB1.size _⟩
/-- a times 2 to the k -/
def scaleP (a : Nat) (k : Int) : Nat :=
  if nanP a = true then 2143289344 else if infP a = true ∨ oS a = 0 then a
  else roundP 0 (oN a) (oE a + max (-1000) (min k 1000)) (oS a) false
set_option maxRecDepth 100000 in
set_option maxHeartbeats 1600000 in
theorem scale_any (a : Nat) (k : Int) (w : World) (h : Hid (a < 4294967296)) :
    Calls Try.prog 43 #[.int .u32 (a : Int), .int .i64 k] w (BR w (scaleP a k)) := by
  cases hna : nanP a
  case true =>
    have NA := Lib.hid hna
    have HE : Hid (scaleP a k = 2143289344) := Lib.hid (by unfold scaleP; rw [if_pos hna])
    clear hna
    go_enter Try.func43, Try.ntmps43
    go_wp2_with fail
    refine (nan_at h NA).mono ?_
    rintro e w' ⟨rfl, rfl⟩
    go_wp2
    go_ret
    exact ⟨by rw [HE.out]; try rfl, Below.refl _ _⟩
  have NA := Lib.hid hna
  have hno : ¬ nanP a = true := by rw [hna]; decide
  obtain ⟨ob1, ob2, ob3⟩ := o_bounds a
  obtain ⟨ia, hia⟩ : ∃ x, infP a = x := ⟨_, rfl⟩
  have IA := Lib.hid hia
  obtain ⟨s, hss⟩ : ∃ s, oS a = s := ⟨_, rfl⟩
  obtain ⟨e, hee⟩ : ∃ e, oE a = e := ⟨_, rfl⟩
  have HE0 : Hid (scaleP a k = if ia = true ∨ s = 0 then a else roundP 0 (oN a) (e + max (-1000) (min k 1000)) s false) := Lib.hid (by unfold scaleP; rw [if_neg hno, hia, hss, hee])
  rw [hss] at ob1
  rw [hee] at ob2 ob3
  have HSS := Lib.hid hss
  have HEE := Lib.hid hee
  clear hna hno hia hss hee
  cases ia
  case true =>
    have HE : Hid (scaleP a k = a) := Lib.hid (by rw [HE0.out, if_pos (.inl rfl)])
    clear HE0
    go_enter Try.func43, Try.ntmps43
    go_wp2_with fail
    refine (nan_at h NA).mono ?_
    rintro e w' ⟨rfl, rfl⟩
    go_wp2_with fail
    refine (ropen_any a _ h).mono ?_
    rintro e' w1 ⟨rfl, hB1⟩
    go_wp2_with fail
    refine (inf_at h IA).mono ?_
    rintro e w' ⟨rfl, rfl⟩
    go_wp2
    go_ret
    exact ⟨by rw [HE.out]; try rfl, hB1.alloc hB1.size _⟩
  by_cases hs0 : s = 0
  · have HE : Hid (scaleP a k = a) := Lib.hid (by rw [HE0.out, if_pos (.inr hs0)])
    have bs : ((s : Int) == 0) = true := int_eq (y := 0) hs0
    clear HE0 hs0
    go_enter Try.func43, Try.ntmps43
    go_wp2_with fail
    refine (nan_at h NA).mono ?_
    rintro e w' ⟨rfl, rfl⟩
    go_wp2_with fail
    refine (ropen_any a _ h).mono ?_
    rintro e' w1 ⟨rfl, hB1⟩
    rw [HSS.out]
    go_wp2_with fail
    refine (inf_at h IA).mono ?_
    rintro e w' ⟨rfl, rfl⟩
    go_wp2
    go_ret
    exact ⟨by rw [HE.out]; try rfl, hB1.alloc hB1.size _⟩
  · have HE1 : Hid (scaleP a k = roundP 0 (oN a) (e + max (-1000) (min k 1000)) s false) := Lib.hid (by rw [HE0.out, if_neg (by simp [hs0])])
    have bs : ((s : Int) == 0) = false := int_ne (y := 0) hs0
    obtain ⟨K, hK⟩ : ∃ K, max (-1000) (min k 1000) = K := ⟨_, rfl⟩
    have HE : Hid (scaleP a k = roundP 0 (oN a) (e + K) s false) := Lib.hid (by rw [HE1.out, hK])
    have hK1 : -1000 ≤ K ∧ K ≤ 1000 := by omega
    clear HE0 HE1 hs0
    go_enter Try.func43, Try.ntmps43
    go_wp2_with fail
    refine (nan_at h NA).mono ?_
    rintro e w' ⟨rfl, rfl⟩
    go_wp2_with fail
    refine (ropen_any a _ h).mono ?_
    rintro e' w1 ⟨rfl, hB1⟩
    rw [HSS.out, HEE.out]
    go_wp2_with fail
    refine (inf_at h IA).mono ?_
    rintro e w' ⟨rfl, rfl⟩
    go_wp2_with fail
    refine (round_at (s := s) rfl (by omega) (by omega) (Lib.hid rfl)).mono ?_
    rintro e' w' ⟨rfl, rfl⟩
    go_wp2
    go_ret
    exact ⟨by rw [HE.out]; try rfl, hB1.alloc hB1.size _⟩
end Go.Proofs.Ytegeadkilolngaa

/- The contracts of round.whole, Floor, Ceil, Even. -/
namespace Go.Proofs.Ytegeadkilolngaa
open Go.RowKit

/-- what is left, held against a half -/
def halfP (l d : Nat) : Int := if two (d - 1) < l then 1 else if l = two (d - 1) then 0 else -1
def upP (how : Nat) (neg : Bool) (half : Int) (odd : Bool) : Bool := if how = 0 then neg else if how = 1 then !neg else decide (0 < half) || (decide (half = 0) && odd)
/-- a whole float by a, as its code has it: 0 Floor, 1 Ceil, 2 Even -/
def wholeP (how a : Nat) : Nat :=
  if nanP a = true then 2143289344 else if infP a = true ∨ 0 ≤ oE a ∨ oS a = 0 then a
  else if oS a % two (-oE a).toNat = 0 then a
  else roundP 0 (oN a) 0 (if upP how (oN a) (halfP (oS a % two (-oE a).toNat) (-oE a).toNat) (decide (oS a / two (-oE a).toNat % 2 = 1)) = true then oS a / two (-oE a).toNat + 1 else oS a / two (-oE a).toNat) false
theorem low_1 {n : Nat} (h : n < 18446744073709551616) : (bits .and .u64 (n : Int) 1 == 1) = decide (n % 2 = 1) := by
  have hb : bits .and .u64 (n : Int) 1 = ((n % 2 : Nat) : Int) := by
    have := bits_mask .u64 64 (by decide) (fun n h0 h1 => by rw [IntKind.wrap_u64]; omega) 1 (by decide) (n : Int) (by omega) (by omega)
    simpa using this
  rw [hb]
  by_cases h1 : n % 2 = 1
  · rw [decide_eq_true h1, beq_iff_eq]; omega
  · rw [decide_eq_false h1, beq_eq_false_iff_ne]; omega
theorem up2 {neg odd r : Bool} {half : Int} {w : World} (hr : Hid (upP 2 neg half odd = r)) :
    Calls Try.prog 65 #[.bool neg, .int .i64 half, .bool odd] w fun e w' => e = .returned (.bool r) ∧ w' = w := by
  have HE0 : Hid (r = (decide (0 < half) || (decide (half = 0) && odd))) := Lib.hid (by rw [← hr.out]; rfl)
  by_cases h1 : 0 < half
  · have HE : Hid (r = true) := Lib.hid (by rw [HE0.out, decide_eq_true h1]; rfl)
    go_enter Try.func65, Try.ntmps65
    go_wp2
    go_ret
    exact ⟨by rw [HE.out]; try rfl, rfl⟩
  · by_cases h2 : half = 0
    · have HE : Hid (r = odd) := Lib.hid (by rw [HE0.out, decide_eq_false h1, decide_eq_true h2]; rfl)
      subst h2
      go_enter Try.func65, Try.ntmps65
      go_wp2
      go_ret
      exact ⟨by rw [HE.out]; try rfl, rfl⟩
    · have HE : Hid (r = false) := Lib.hid (by rw [HE0.out, decide_eq_false h1, decide_eq_false h2]; rfl)
      have b2 : (half == 0) = false := by rw [beq_eq_false_iff_ne]; exact h2
      go_enter Try.func65, Try.ntmps65
      go_wp2
      go_ret
      exact ⟨by rw [HE.out]; try rfl, rfl⟩
set_option maxRecDepth 100000 in
set_option maxHeartbeats 1600000 in
theorem whole2_any (a : Nat) (w : World) (h : Hid (a < 4294967296)) :
    Calls Try.prog 64 #[.int .u32 (a : Int), .func (.func 65) #[] #[]] w (BR w (wholeP 2 a)) := by
  cases hna : nanP a
  case true =>
    have NA := Lib.hid hna
    have HE : Hid (wholeP 2 a = 2143289344) := Lib.hid (by unfold wholeP; rw [if_pos hna])
    clear hna
    go_enter Try.func64, Try.ntmps64
    go_wp2_with fail
    refine (nan_at h NA).mono ?_
    rintro e' w' ⟨rfl, rfl⟩
    go_wp2
    go_ret
    exact ⟨by rw [HE.out]; try rfl, Below.refl _ _⟩
  have NA := Lib.hid hna
  have hno : ¬ nanP a = true := by rw [hna]; decide
  obtain ⟨ob1, ob2, ob3⟩ := o_bounds a
  obtain ⟨ia, hia⟩ : ∃ x, infP a = x := ⟨_, rfl⟩
  obtain ⟨s, hss⟩ : ∃ s, oS a = s := ⟨_, rfl⟩
  obtain ⟨e, hee⟩ : ∃ e, oE a = e := ⟨_, rfl⟩
  obtain ⟨nb, hnb⟩ : ∃ e, oN a = e := ⟨_, rfl⟩
  have HE0 : Hid (wholeP 2 a = if ia = true ∨ 0 ≤ e ∨ s = 0 then a else if s % two (-e).toNat = 0 then a
    else roundP 0 nb 0 (if upP 2 nb (halfP (s % two (-e).toNat) (-e).toNat) (decide (s / two (-e).toNat % 2 = 1)) = true then s / two (-e).toNat + 1 else s / two (-e).toNat) false) := Lib.hid (by
      unfold wholeP; rw [if_neg hno, hia, hss, hee, hnb])
  rw [hss] at ob1
  rw [hee] at ob2 ob3
  have IA := Lib.hid hia
  have HSS := Lib.hid hss
  have HEE := Lib.hid hee
  have HNB := Lib.hid hnb
  clear hna hno hia hss hee hnb
  cases ia
  case true =>
    have HE : Hid (wholeP 2 a = a) := Lib.hid (by rw [HE0.out, if_pos (.inl rfl)])
    clear HE0
    go_enter Try.func64, Try.ntmps64
    go_wp2_with fail
    refine (nan_at h NA).mono ?_
    rintro e' w' ⟨rfl, rfl⟩
    go_wp2_with fail
    refine (ropen_any a _ h).mono ?_
    rintro e' w1 ⟨rfl, hB1⟩
    rw [HNB.out, HSS.out, HEE.out]
    go_wp2_with fail
    refine (inf_at h IA).mono ?_
    rintro e' w' ⟨rfl, rfl⟩
    go_wp2
    go_ret
    exact ⟨by rw [HE.out]; try rfl, hB1.alloc hB1.size _⟩
  by_cases he : 0 ≤ e
  case pos =>
    have HE : Hid (wholeP 2 a = a) := Lib.hid (by rw [HE0.out, if_pos (.inr (.inl he))])
    clear HE0
    go_enter Try.func64, Try.ntmps64
    go_wp2_with fail
    refine (nan_at h NA).mono ?_
    rintro e' w' ⟨rfl, rfl⟩
    go_wp2_with fail
    refine (ropen_any a _ h).mono ?_
    rintro e' w1 ⟨rfl, hB1⟩
    rw [HNB.out, HSS.out, HEE.out]
    go_wp2_with fail
    refine (inf_at h IA).mono ?_
    rintro e' w' ⟨rfl, rfl⟩
    go_wp2
    go_ret
    exact ⟨by rw [HE.out]; try rfl, hB1.alloc hB1.size _⟩
  obtain ⟨d, hd⟩ : ∃ d : Nat, e = -(d : Int) := ⟨(-e).toNat, by omega⟩
  subst hd
  have hd1 : 1 ≤ d := by omega
  have hd2 : d ≤ 149 := by omega
  have hneg : ¬ (0 : Int) ≤ -(d : Int) := he
  by_cases hs0 : s = 0
  case pos =>
    have HE : Hid (wholeP 2 a = a) := Lib.hid (by rw [HE0.out, if_pos (.inr (.inr hs0))])
    have bs : ((s : Int) == 0) = true := int_eq (y := 0) hs0
    clear HE0 hs0 he
    go_enter Try.func64, Try.ntmps64
    go_wp2_with fail
    refine (nan_at h NA).mono ?_
    rintro e' w' ⟨rfl, rfl⟩
    go_wp2_with fail
    refine (ropen_any a _ h).mono ?_
    rintro e' w1 ⟨rfl, hB1⟩
    rw [HNB.out, HSS.out, HEE.out]
    go_wp2_with fail
    refine (inf_at h IA).mono ?_
    rintro e' w' ⟨rfl, rfl⟩
    go_wp2
    go_ret
    exact ⟨by rw [HE.out]; try rfl, hB1.alloc hB1.size _⟩
  have bs : ((s : Int) == 0) = false := int_ne (y := 0) hs0
  have hdd : (-(-(d : Int))).toNat = d := by omega
  have HE1 : Hid (wholeP 2 a = if s % two d = 0 then a else roundP 0 nb 0 (if upP 2 nb (halfP (s % two d) d) (decide (s / two d % 2 = 1)) = true then s / two d + 1 else s / two d) false) := Lib.hid (by rw [HE0.out, if_neg (by simp [hs0]; omega), hdd])
  have hdm := Nat.div_add_mod s (two d)
  have hml := Nat.mod_lt s (two_pos d)
  obtain ⟨n, hn⟩ : ∃ n, s / two d = n := ⟨_, rfl⟩
  obtain ⟨l, hl⟩ : ∃ n, s % two d = n := ⟨_, rfl⟩
  rw [hn, hl] at hdm HE1
  rw [hl] at hml
  have hnd : n * two d + l = s := by rw [Nat.mul_comm]; exact hdm
  obtain ⟨nd, hnd2⟩ : ∃ x, n * two d = x := ⟨_, rfl⟩
  rw [hnd2] at hnd
  have hns : n ≤ s := by rw [← hn]; exact Nat.div_le_self _ _
  have hq : (s : Int) / 2 ^ min d 64 = (n : Int) := by
    by_cases h64 : d ≤ 64
    · rw [Nat.min_eq_left h64, quo_cast, hn]
    · obtain ⟨e1, e2⟩ := mv_small (s := s) (d := 64) (Nat.le_refl _) (by omega)
      obtain ⟨f1, f2⟩ := mv_small (s := s) (d := d) (by omega) (by omega)
      rw [Nat.min_eq_right (by omega), quo_cast, e1, ← hn, f1]
  have hsh : IntKind.u64.wrap ((n : Int) * 2 ^ min d 64) = (nd : Int) := by
    by_cases h64 : d ≤ 64
    · rw [Nat.min_eq_left h64, two_cast, ← Int.natCast_mul, hnd2, wrap64_nat (by omega)]
    · obtain ⟨f1, f2⟩ := mv_small (s := s) (d := d) (by omega) (by omega)
      rw [hn] at f1
      rw [f1, Nat.zero_mul] at hnd2
      rw [f1, ← hnd2, show ((0 : Nat) : Int) = 0 from rfl, Int.zero_mul]
      exact IntWalk.u64_in 0 (by omega)
  have hsub : (s : Int) - (nd : Int) = (l : Int) := by omega
  have hsub2 : IntKind.u64.wrap ((s : Int) - (nd : Int)) = (l : Int) := by rw [hsub]; exact wrap64_nat (by omega)
  have hlow := low_1 (n := n) (by omega)
  obtain ⟨od, hod⟩ : ∃ o, decide (n % 2 = 1) = o := ⟨_, rfl⟩
  rw [hod] at hlow HE1
  have hls : l < 16777216 := by omega
  have hn24 : n < 16777216 := by omega
  have HD1 := Lib.hid hd1
  have hq1 : ((s : Int) / 2 ^ d) = (n : Int) := by rw [quo_cast, hn]
  clear HE0 hs0 he hdm hn hnd hnd2 hod hml hl
  by_cases hl0 : l = 0
  case pos =>
    have HE : Hid (wholeP 2 a = a) := Lib.hid (by rw [HE1.out, if_pos hl0])
    have bl : ((l : Int) == 0) = true := int_eq (y := 0) hl0
    clear HE1 hl0
    go_enter Try.func64, Try.ntmps64
    go_wp2_with fail
    refine (nan_at h NA).mono ?_
    rintro e' w' ⟨rfl, rfl⟩
    go_wp2_with fail
    refine (ropen_any a _ h).mono ?_
    rintro e' w1 ⟨rfl, hB1⟩
    rw [HNB.out, HSS.out, HEE.out]
    go_wp2_with fail
    refine (inf_at h IA).mono ?_
    rintro e' w' ⟨rfl, rfl⟩
    go_wp2
    go_quiet (fail)
    go_wp2
    go_ret
    exact ⟨by rw [HE.out]; try rfl, below_drewN (hB1.alloc hB1.size _) nq⟩
  have bl : ((l : Int) == 0) = false := int_ne (y := 0) hl0
  have HE2 : Hid (wholeP 2 a = roundP 0 nb 0 (if upP 2 nb (halfP l d) od = true then n + 1 else n) false) := Lib.hid (by rw [HE1.out, if_neg hl0])
  clear HE1 hl0
  obtain ⟨hv, hhv⟩ : ∃ v, halfP l d = v := ⟨_, rfl⟩
  rw [hhv] at HE2
  have HHV := Lib.hid hhv
  clear hhv
  go_enter Try.func64, Try.ntmps64
  go_wp2_with fail
  refine (nan_at h NA).mono ?_
  rintro e' w' ⟨rfl, rfl⟩
  go_wp2_with fail
  refine (ropen_any a _ h).mono ?_
  rintro e' w1 ⟨rfl, hB1⟩
  rw [HNB.out, HSS.out, HEE.out]
  go_wp2_with fail
  refine (inf_at h IA).mono ?_
  rintro e' w' ⟨rfl, rfl⟩
  go_wp2
  go_quiet (fail)
  have hB2 := below_drewN (hB1.alloc hB1.size (.cells #[.bool nb, .int .i64 (-(d : Int)), .int .u64 (s : Int)] 50)) nq
  have hk := (Blk.new w1 50 #[.bool nb, .int .i64 (-(d : Int)), .int .u64 (s : Int)]).drewN nq
  generalize (w1.alloc (.cells #[.bool nb, .int .i64 (-(d : Int)), .int .u64 (s : Int)] 50)).drewN nq = W2 at *
  have k0 := hk.cell 0
  have k1 := hk.cell 1
  simp at k0 k1
  clear hk
  go_upto_if 46 with fail
  obtain ⟨sw, hsw⟩ : ∃ b, decide ((d : Int) ≤ 24) = b := ⟨_, rfl⟩
  simp only [hsw]
  have HSW := Lib.hid hsw
  clear hsw
  go_cut [8, 9] from 47 to 59 (fun hvv _ wx => hvv = .int .i64 hv ∧ wx = W2)
  case first =>
    by_cases h24 : d ≤ 24
    · obtain rfl : sw = true := HSW.out.symm.trans (decide_eq_true (by omega))
      have hhalf := half_cast (d := d) (by omega) HD1.out
      have hcnt : ((d : Int) - 1).toNat = d - 1 := by omega
      have hcc : ((d : Int) - 1) = ((d - 1 : Nat) : Int) := by omega
      obtain ⟨md, hmd⟩ : ∃ m, two (d - 1) = m := ⟨_, rfl⟩
      rw [hmd] at hhalf
      have HM := Lib.hid hmd
      clear hmd
      by_cases h1 : md < l
      · have h1' : (md : Int) < (l : Int) := by omega
        have HV1 : Hid (hv = 1) := Lib.hid (by rw [← HHV.out, halfP, HM.out, if_pos h1])
        go_wp2
        go_meet
        case rel => exact ⟨by rw [HV1.out], rfl⟩
      · have h1' : ¬ (md : Int) < (l : Int) := by omega
        by_cases h2 : l = md
        · have HV1 : Hid (hv = 0) := Lib.hid (by rw [← HHV.out, halfP, HM.out, if_neg h1, if_pos h2])
          have b2 : ((l : Int) == (md : Int)) = true := int_eq h2
          clear h2
          go_wp2
          go_meet
          case rel => exact ⟨by rw [HV1.out], rfl⟩
        · have HV1 : Hid (hv = -1) := Lib.hid (by rw [← HHV.out, halfP, HM.out, if_neg h1, if_neg h2])
          have b2 : ((l : Int) == (md : Int)) = false := int_ne h2
          go_wp2
          go_meet
          case rel => exact ⟨by rw [HV1.out], rfl⟩
    · obtain rfl : sw = false := HSW.out.symm.trans (decide_eq_false (by omega))
      have h5 := two_le (show 24 ≤ d - 1 by omega)
      rw [two_24] at h5
      have HV1 : Hid (hv = -1) := Lib.hid (by rw [← HHV.out, halfP, if_neg (by omega), if_neg (by omega)])
      go_wp2
      go_meet
      case rel => exact ⟨by rw [HV1.out], rfl⟩
  case rest =>
    obtain ⟨rfl, rfl⟩ := hcut
    obtain ⟨up, hup⟩ : ∃ u, upP 2 nb hv od = u := ⟨_, rfl⟩
    have HU := Lib.hid hup
    rw [hup] at HE2
    clear hup
    go_wp2_with fail
    refine (up2 HU).mono ?_
    rintro e' w' ⟨rfl, rfl⟩
    cases up
    · go_wp2_with fail
      refine (round_at (s := n) rfl (by omega) (by omega) (Lib.hid rfl)).mono ?_
      rintro e' w' ⟨rfl, rfl⟩
      go_wp2
      go_ret
      exact ⟨by rw [HE2.out]; try rfl, hB2⟩
    · go_wp2_with fail
      refine (round_at (s := n + 1) (by first | rfl | simp) (by omega) (by omega) (Lib.hid rfl)).mono ?_
      rintro e' w' ⟨rfl, rfl⟩
      go_wp2
      go_ret
      exact ⟨by rw [HE2.out]; try rfl, hB2⟩
theorem even_any (a : Nat) (w : World) (h : Hid (a < 4294967296)) :
    Calls Try.prog 42 #[.int .u32 (a : Int)] w (BR w (wholeP 2 a)) := by
  go_enter Try.func42, Try.ntmps42
  go_wp2_with fail
  refine (whole2_any a _ h).mono ?_
  rintro e w' ⟨rfl, hb⟩
  go_wp2
  go_ret
  exact ⟨rfl, hb⟩
end Go.Proofs.Ytegeadkilolngaa

/- The shell that the statements of layer 2 share: their own examples. -/
namespace Go.Proofs.Ytegeadkilolngaa
open Go.ChangeShapes Go.WideShapes Go.ChangeAt Go.RowKit

theorem fma0_any (a b c : Nat) (w : World) (h1 : Hid (a < 4294967296)) (h2 : Hid (b < 4294967296)) (h3 : Hid (c < 4294967296)) :
    Calls Try.prog 38 #[.int .u32 (a : Int), .int .u32 (b : Int), .int .u32 (c : Int)] w (BR w (fmaP 0 a b c)) := by
  go_enter Try.func38, Try.ntmps38
  go_wp2_with fail
  refine (fma_any 0 a b c _ h1 h2 h3).mono ?_
  rintro e w' ⟨rfl, hb⟩
  go_wp2
  go_ret
  exact ⟨rfl, hb⟩
theorem sqrt_two : sqrtP 0 1073741824 = 1068827891 := by
  have h : rt 2305843009213693952 = 1518500249 := rt_eq (by decide) (by decide) (by decide)
  have h1 : roundP 0 false (-30) 1518500249 (decide (1518500249 * 1518500249 ≠ 2305843009213693952)) = 1068827891 := by kernel_rfl
  have hs : oS 1073741824 = 8388608 := by kernel_rfl
  have he : oE 1073741824 = -22 := by kernel_rfl
  have hk : sqK 8388608 (-22) = 38 := by kernel_rfl
  have hh : sqH 8388608 (-22) = -30 := by kernel_rfl
  have hn : 8388608 * two 38 = 2305843009213693952 := by kernel_rfl
  have h0 : sqrtP 0 1073741824 = sqM 0 (oS 1073741824) (oE 1073741824) := by
    unfold sqrtP
    rw [if_neg (by decide), if_neg (by decide), if_neg (by decide), if_neg (by decide)]
  rw [h0, hs, he, sqM, hk, hh, hn, h]
  exact h1
end Go.Proofs.Ytegeadkilolngaa
