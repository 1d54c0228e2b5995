/- The contract of round.FmaBy. -/
import Derived.Test.YtanccobllehnaaaRdS
import Derived.Test.YtanccobllehnaaaRefH
import Derived.Test.YtanccobllehnaaaSoftL
namespace Go.Proofs.Ytanccobllehnaaa
open Go.RowKit

/-- of finite ones -/
def finP (way : Int) (neg : Bool) (c : Nat) (pe : Int) (ps : Nat) (zn : Bool) (ze : Int) (zs : Nat) : Nat :=
  if ps = 0 ∧ zs = 0 then (if zn = neg then c else sgn (way == 2))
  else if ps = 0 then c
  else if zs = 0 then roundP way neg pe ps false
  else sumF way neg pe ps zn ze zs
/-- a * b + c, rounded once, as its code has it -/
def fmaP (way : Int) (a b c : Nat) : Nat :=
  if nanP a = true ∨ nanP b = true ∨ nanP c = true ∨ nanP (mulP 0 a b) = true then 2143289344
  else if infP a = true ∨ infP b = true then (if infP c = true ∧ c ≠ sgn (sgnX a b) + 2139095040 then 2143289344 else sgn (sgnX a b) + 2139095040)
  else if infP c = true then c
  else finP way (sgnX a b) c (oE a + oE b) (oS a * oS b) (oN c) (oE c) (oS c)
theorem mul0_at {a b r : Nat} {w : World} (h : Hid (a < 4294967296)) (h' : Hid (b < 4294967296)) (hr : Hid (mulP 0 a b = r)) : Calls Try.prog 32 #[.int .u32 (a : Int), .int .u32 (b : Int)] w fun e w' => e = .returned (.int .u32 (r : Int)) ∧ Below w.heap.size w w' := by
  have := mul0_any a b w h h'
  rw [hr.out] at this
  exact this
set_option maxRecDepth 100000 in
set_option maxHeartbeats 3200000 in
theorem fma_any (way : Int) (a b c : Nat) (w : World) (h1 : Hid (a < 4294967296)) (h2 : Hid (b < 4294967296)) (h3 : Hid (c < 4294967296)) :
    Calls Try.prog 12 #[.int .i64 way, .int .u32 (a : Int), .int .u32 (b : Int), .int .u32 (c : Int)] w (BR w (fmaP way a b c)) := by
  obtain ⟨sn, hsn⟩ : ∃ s, sgnX a b = s := ⟨_, rfl⟩
  have hneg : ((a : Int) / 2147483648 != (b : Int) / 2147483648) = sn := by
    rw [← hsn]
    have g1 := h1.out
    have g2 := h2.out
    unfold sgnX
    by_cases ha : 2147483648 ≤ a <;> by_cases hb : 2147483648 ≤ b
    · rw [decide_eq_true ha, decide_eq_true hb, show (a : Int) / 2147483648 = 1 from by omega, show (b : Int) / 2147483648 = 1 from by omega]; rfl
    · rw [decide_eq_true ha, decide_eq_false hb, show (a : Int) / 2147483648 = 1 from by omega, show (b : Int) / 2147483648 = 0 from by omega]; rfl
    · rw [decide_eq_false ha, decide_eq_true hb, show (a : Int) / 2147483648 = 0 from by omega, show (b : Int) / 2147483648 = 1 from by omega]; rfl
    · rw [decide_eq_false ha, decide_eq_false hb, show (a : Int) / 2147483648 = 0 from by omega, show (b : Int) / 2147483648 = 0 from by omega]; rfl
  have hneg2 : (!((a : Int) / 2147483648 == (b : Int) / 2147483648)) = sn := hneg
  have SN := Lib.hid hsn
  clear hsn
  cases hna : nanP a
  case true =>
    have NA := Lib.hid hna
    have HE : Hid (fmaP way a b c = 2143289344) := Lib.hid (by unfold fmaP; rw [if_pos (.inl hna)])
    have IA : Hid (infP a = false) := Lib.hid (by cases h : infP a; · rfl
                                                  · rw [inf_nan h] at hna; cases hna)
    obtain ⟨ib, hib⟩ : ∃ x, infP b = x := ⟨_, rfl⟩
    have IB := Lib.hid hib
    clear hna hib
    go_enter Try.func12, Try.ntmps12
    have hB0 := Below.refl w.heap.size w
    have hz0 := hB0.size
    go_wp2_with fail
    refine (inf_at h1 IA).mono ?_
    rintro e w' ⟨rfl, rfl⟩
    go_wp2_with fail
    refine (inf_at h2 IB).mono ?_
    rintro e w' ⟨rfl, rfl⟩
    go_wp2_with fail
    refine (nan_at h1 NA).mono ?_
    rintro e w' ⟨rfl, rfl⟩
    go_wp2
    go_ret
    exact ⟨by rw [HE.out]; try rfl, hB0⟩
  have NA := Lib.hid hna
  cases hnb : nanP b
  case true =>
    have NB := Lib.hid hnb
    have HE : Hid (fmaP way a b c = 2143289344) := Lib.hid (by unfold fmaP; rw [if_pos (.inr (.inl hnb))])
    have IB : Hid (infP b = false) := Lib.hid (by cases h : infP b; · rfl
                                                  · rw [inf_nan h] at hnb; cases hnb)
    cases hia : infP a
    · have IA := Lib.hid hia
      clear hna hnb hia
      go_enter Try.func12, Try.ntmps12
      have hB0 := Below.refl w.heap.size w
      have hz0 := hB0.size
      go_wp2_with fail
      refine (inf_at h1 IA).mono ?_
      rintro e w' ⟨rfl, rfl⟩
      go_wp2_with fail
      refine (inf_at h2 IB).mono ?_
      rintro e w' ⟨rfl, rfl⟩
      go_wp2_with fail
      refine (nan_at h1 NA).mono ?_
      rintro e w' ⟨rfl, rfl⟩
      go_wp2_with fail
      refine (nan_at h2 NB).mono ?_
      rintro e w' ⟨rfl, rfl⟩
      go_wp2
      go_ret
      exact ⟨by rw [HE.out]; try rfl, hB0⟩
    · have IA := Lib.hid hia
      clear hna hnb hia
      go_enter Try.func12, Try.ntmps12
      have hB0 := Below.refl w.heap.size w
      have hz0 := hB0.size
      go_wp2_with fail
      refine (inf_at h1 IA).mono ?_
      rintro e w' ⟨rfl, rfl⟩
      go_wp2_with fail
      refine (nan_at h1 NA).mono ?_
      rintro e w' ⟨rfl, rfl⟩
      go_wp2_with fail
      refine (nan_at h2 NB).mono ?_
      rintro e w' ⟨rfl, rfl⟩
      go_wp2
      go_ret
      exact ⟨by rw [HE.out]; try rfl, hB0⟩
  have NB := Lib.hid hnb
  cases hnc : nanP c
  case true =>
    have NC := Lib.hid hnc
    have HE : Hid (fmaP way a b c = 2143289344) := Lib.hid (by unfold fmaP; rw [if_pos (.inr (.inr (.inl hnc)))])
    obtain ⟨ib, hib⟩ : ∃ x, infP b = x := ⟨_, rfl⟩
    have IB := Lib.hid hib
    cases hia : infP a
    · have IA := Lib.hid hia
      clear hna hnb hnc hia hib
      go_enter Try.func12, Try.ntmps12
      have hB0 := Below.refl w.heap.size w
      have hz0 := hB0.size
      go_wp2_with fail
      refine (inf_at h1 IA).mono ?_
      rintro e w' ⟨rfl, rfl⟩
      go_wp2_with fail
      refine (inf_at h2 IB).mono ?_
      rintro e w' ⟨rfl, rfl⟩
      go_wp2_with fail
      refine (nan_at h1 NA).mono ?_
      rintro e w' ⟨rfl, rfl⟩
      go_wp2_with fail
      refine (nan_at h2 NB).mono ?_
      rintro e w' ⟨rfl, rfl⟩
      go_wp2_with fail
      refine (nan_at h3 NC).mono ?_
      rintro e w' ⟨rfl, rfl⟩
      go_wp2
      go_ret
      exact ⟨by rw [HE.out]; try rfl, hB0⟩
    · have IA := Lib.hid hia
      clear hna hnb hnc hia hib
      go_enter Try.func12, Try.ntmps12
      have hB0 := Below.refl w.heap.size w
      have hz0 := hB0.size
      go_wp2_with fail
      refine (inf_at h1 IA).mono ?_
      rintro e w' ⟨rfl, rfl⟩
      go_wp2_with fail
      refine (nan_at h1 NA).mono ?_
      rintro e w' ⟨rfl, rfl⟩
      go_wp2_with fail
      refine (nan_at h2 NB).mono ?_
      rintro e w' ⟨rfl, rfl⟩
      go_wp2_with fail
      refine (nan_at h3 NC).mono ?_
      rintro e w' ⟨rfl, rfl⟩
      go_wp2
      go_ret
      exact ⟨by rw [HE.out]; try rfl, hB0⟩
  have NC := Lib.hid hnc
  obtain ⟨m, hm⟩ : ∃ x, mulP 0 a b = x := ⟨_, rfl⟩
  have HML : Hid (m < 4294967296) := Lib.hid (by rw [← hm]; exact (okR.mul 0 a b).1)
  have HM := Lib.hid hm
  cases hnm : nanP m
  case true =>
    have NM := Lib.hid hnm
    have HE : Hid (fmaP way a b c = 2143289344) := Lib.hid (by unfold fmaP; rw [if_pos (.inr (.inr (.inr (by rw [hm]; exact hnm))))])
    obtain ⟨ib, hib⟩ : ∃ x, infP b = x := ⟨_, rfl⟩
    have IB := Lib.hid hib
    cases hia : infP a
    · have IA := Lib.hid hia
      clear hna hnb hnc hnm hm hia hib
      go_enter Try.func12, Try.ntmps12
      have hB0 := Below.refl w.heap.size w
      have hz0 := hB0.size
      go_wp2_with fail
      refine (inf_at h1 IA).mono ?_
      rintro e w' ⟨rfl, rfl⟩
      go_wp2_with fail
      refine (inf_at h2 IB).mono ?_
      rintro e w' ⟨rfl, rfl⟩
      go_wp2_with fail
      refine (nan_at h1 NA).mono ?_
      rintro e w' ⟨rfl, rfl⟩
      go_wp2_with fail
      refine (nan_at h2 NB).mono ?_
      rintro e w' ⟨rfl, rfl⟩
      go_wp2_with fail
      refine (nan_at h3 NC).mono ?_
      rintro e w' ⟨rfl, rfl⟩
      go_wp2_with fail
      refine (mul0_at h1 h2 HM).mono ?_
      rintro e W1 ⟨rfl, hC⟩
      have hB1 := hB0.trans (hC.mono hz0)
      have hz1 := hB1.size
      clear hC hB0 hz0
      go_wp2_with fail
      refine (nan_at HML NM).mono ?_
      rintro e w' ⟨rfl, rfl⟩
      go_wp2
      go_ret
      exact ⟨by rw [HE.out]; try rfl, hB1⟩
    · have IA := Lib.hid hia
      clear hna hnb hnc hnm hm hia hib
      go_enter Try.func12, Try.ntmps12
      have hB0 := Below.refl w.heap.size w
      have hz0 := hB0.size
      go_wp2_with fail
      refine (inf_at h1 IA).mono ?_
      rintro e w' ⟨rfl, rfl⟩
      go_wp2_with fail
      refine (nan_at h1 NA).mono ?_
      rintro e w' ⟨rfl, rfl⟩
      go_wp2_with fail
      refine (nan_at h2 NB).mono ?_
      rintro e w' ⟨rfl, rfl⟩
      go_wp2_with fail
      refine (nan_at h3 NC).mono ?_
      rintro e w' ⟨rfl, rfl⟩
      go_wp2_with fail
      refine (mul0_at h1 h2 HM).mono ?_
      rintro e W1 ⟨rfl, hC⟩
      have hB1 := hB0.trans (hC.mono hz0)
      have hz1 := hB1.size
      clear hC hB0 hz0
      go_wp2_with fail
      refine (nan_at HML NM).mono ?_
      rintro e w' ⟨rfl, rfl⟩
      go_wp2
      go_ret
      exact ⟨by rw [HE.out]; try rfl, hB1⟩
  have NM := Lib.hid hnm
  have hno : ¬ (nanP a = true ∨ nanP b = true ∨ nanP c = true ∨ nanP (mulP 0 a b) = true) := by rw [hna, hnb, hnc, hm, hnm]; simp
  obtain ⟨I, hI⟩ : ∃ x, sgn sn + 2139095040 = x := ⟨_, rfl⟩
  have hor : bits .or .u32 ((sgn sn : Nat) : Int) 2139095040 = (I : Int) := by
    rw [or_sign sn (by decide) (by decide), ← hI]; rfl
  cases hia : infP a
  case true =>
    have IA := Lib.hid hia
    cases hic : infP c
    · have IC := Lib.hid hic
      have HE : Hid (fmaP way a b c = I) := Lib.hid (by unfold fmaP; rw [if_neg hno, if_pos (.inl hia), if_neg (by rw [hic]; simp), SN.out]; exact hI)
      clear hna hnb hnc hnm hm hia hno hic hI
      go_enter Try.func12, Try.ntmps12
      have hB0 := Below.refl w.heap.size w
      have hz0 := hB0.size
      go_wp2_with fail
      refine (inf_at h1 IA).mono ?_
      rintro e w' ⟨rfl, rfl⟩
      go_wp2_with fail
      refine (nan_at h1 NA).mono ?_
      rintro e w' ⟨rfl, rfl⟩
      go_wp2_with fail
      refine (nan_at h2 NB).mono ?_
      rintro e w' ⟨rfl, rfl⟩
      go_wp2_with fail
      refine (nan_at h3 NC).mono ?_
      rintro e w' ⟨rfl, rfl⟩
      go_wp2_with fail
      refine (mul0_at h1 h2 HM).mono ?_
      rintro e W1 ⟨rfl, hC⟩
      have hB1 := hB0.trans (hC.mono hz0)
      have hz1 := hB1.size
      clear hC hB0 hz0
      go_wp2_with fail
      refine (nan_at HML NM).mono ?_
      rintro e w' ⟨rfl, rfl⟩
      go_wp2_with fail
      refine (inf_at h3 IC).mono ?_
      rintro e w' ⟨rfl, rfl⟩
      go_wp2_with fail
      refine (rsign_any sn _).mono ?_
      rintro e w' ⟨rfl, rfl⟩
      go_wp2
      go_ret
      exact ⟨by rw [HE.out]; try rfl, hB1⟩
    · have IC := Lib.hid hic
      by_cases hcI : c = I
      · have HE : Hid (fmaP way a b c = I) := Lib.hid (by unfold fmaP; rw [if_neg hno, if_pos (.inl hia), if_neg (by rw [SN.out, hI]; simp [hcI]), SN.out]; exact hI)
        have bcI : ((c : Int) != (I : Int)) = false := by rw [hcI]; simp
        clear hna hnb hnc hnm hm hia hno hic hI hcI
        go_enter Try.func12, Try.ntmps12
        have hB0 := Below.refl w.heap.size w
        have hz0 := hB0.size
        go_wp2_with fail
        refine (inf_at h1 IA).mono ?_
        rintro e w' ⟨rfl, rfl⟩
        go_wp2_with fail
        refine (nan_at h1 NA).mono ?_
        rintro e w' ⟨rfl, rfl⟩
        go_wp2_with fail
        refine (nan_at h2 NB).mono ?_
        rintro e w' ⟨rfl, rfl⟩
        go_wp2_with fail
        refine (nan_at h3 NC).mono ?_
        rintro e w' ⟨rfl, rfl⟩
        go_wp2_with fail
        refine (mul0_at h1 h2 HM).mono ?_
        rintro e W1 ⟨rfl, hC⟩
        have hB1 := hB0.trans (hC.mono hz0)
        have hz1 := hB1.size
        clear hC hB0 hz0
        go_wp2_with fail
        refine (nan_at HML NM).mono ?_
        rintro e w' ⟨rfl, rfl⟩
        go_wp2_with fail
        refine (inf_at h3 IC).mono ?_
        rintro e w' ⟨rfl, rfl⟩
        go_wp2_with fail
        refine (rsign_any sn _).mono ?_
        rintro e w' ⟨rfl, rfl⟩
        go_wp2_with fail
        refine (rsign_any sn _).mono ?_
        rintro e w' ⟨rfl, rfl⟩
        go_wp2
        go_ret
        exact ⟨by rw [HE.out]; try rfl, hB1⟩
      · have HE : Hid (fmaP way a b c = 2143289344) := Lib.hid (by unfold fmaP; rw [if_neg hno, if_pos (.inl hia), if_pos ⟨hic, by rw [SN.out, hI]; exact hcI⟩])
        have bcI : ((c : Int) != (I : Int)) = true := by rw [bne_iff_ne]; omega
        clear hna hnb hnc hnm hm hia hno hic hI hcI
        go_enter Try.func12, Try.ntmps12
        have hB0 := Below.refl w.heap.size w
        have hz0 := hB0.size
        go_wp2_with fail
        refine (inf_at h1 IA).mono ?_
        rintro e w' ⟨rfl, rfl⟩
        go_wp2_with fail
        refine (nan_at h1 NA).mono ?_
        rintro e w' ⟨rfl, rfl⟩
        go_wp2_with fail
        refine (nan_at h2 NB).mono ?_
        rintro e w' ⟨rfl, rfl⟩
        go_wp2_with fail
        refine (nan_at h3 NC).mono ?_
        rintro e w' ⟨rfl, rfl⟩
        go_wp2_with fail
        refine (mul0_at h1 h2 HM).mono ?_
        rintro e W1 ⟨rfl, hC⟩
        have hB1 := hB0.trans (hC.mono hz0)
        have hz1 := hB1.size
        clear hC hB0 hz0
        go_wp2_with fail
        refine (nan_at HML NM).mono ?_
        rintro e w' ⟨rfl, rfl⟩
        go_wp2_with fail
        refine (inf_at h3 IC).mono ?_
        rintro e w' ⟨rfl, rfl⟩
        go_wp2_with fail
        refine (rsign_any sn _).mono ?_
        rintro e w' ⟨rfl, rfl⟩
        go_wp2
        go_ret
        exact ⟨by rw [HE.out]; try rfl, hB1⟩
  have IA := Lib.hid hia
  cases hib : infP b
  case true =>
    have IB := Lib.hid hib
    cases hic : infP c
    · have IC := Lib.hid hic
      have HE : Hid (fmaP way a b c = I) := Lib.hid (by unfold fmaP; rw [if_neg hno, if_pos (.inr hib), if_neg (by rw [hic]; simp), SN.out]; exact hI)
      clear hna hnb hnc hnm hm hia hib hno hic hI
      go_enter Try.func12, Try.ntmps12
      have hB0 := Below.refl w.heap.size w
      have hz0 := hB0.size
      go_wp2_with fail
      refine (inf_at h1 IA).mono ?_
      rintro e w' ⟨rfl, rfl⟩
      go_wp2_with fail
      refine (inf_at h2 IB).mono ?_
      rintro e w' ⟨rfl, rfl⟩
      go_wp2_with fail
      refine (nan_at h1 NA).mono ?_
      rintro e w' ⟨rfl, rfl⟩
      go_wp2_with fail
      refine (nan_at h2 NB).mono ?_
      rintro e w' ⟨rfl, rfl⟩
      go_wp2_with fail
      refine (nan_at h3 NC).mono ?_
      rintro e w' ⟨rfl, rfl⟩
      go_wp2_with fail
      refine (mul0_at h1 h2 HM).mono ?_
      rintro e W1 ⟨rfl, hC⟩
      have hB1 := hB0.trans (hC.mono hz0)
      have hz1 := hB1.size
      clear hC hB0 hz0
      go_wp2_with fail
      refine (nan_at HML NM).mono ?_
      rintro e w' ⟨rfl, rfl⟩
      go_wp2_with fail
      refine (inf_at h3 IC).mono ?_
      rintro e w' ⟨rfl, rfl⟩
      go_wp2_with fail
      refine (rsign_any sn _).mono ?_
      rintro e w' ⟨rfl, rfl⟩
      go_wp2
      go_ret
      exact ⟨by rw [HE.out]; try rfl, hB1⟩
    · have IC := Lib.hid hic
      by_cases hcI : c = I
      · have HE : Hid (fmaP way a b c = I) := Lib.hid (by unfold fmaP; rw [if_neg hno, if_pos (.inr hib), if_neg (by rw [SN.out, hI]; simp [hcI]), SN.out]; exact hI)
        have bcI : ((c : Int) != (I : Int)) = false := by rw [hcI]; simp
        clear hna hnb hnc hnm hm hia hib hno hic hI hcI
        go_enter Try.func12, Try.ntmps12
        have hB0 := Below.refl w.heap.size w
        have hz0 := hB0.size
        go_wp2_with fail
        refine (inf_at h1 IA).mono ?_
        rintro e w' ⟨rfl, rfl⟩
        go_wp2_with fail
        refine (inf_at h2 IB).mono ?_
        rintro e w' ⟨rfl, rfl⟩
        go_wp2_with fail
        refine (nan_at h1 NA).mono ?_
        rintro e w' ⟨rfl, rfl⟩
        go_wp2_with fail
        refine (nan_at h2 NB).mono ?_
        rintro e w' ⟨rfl, rfl⟩
        go_wp2_with fail
        refine (nan_at h3 NC).mono ?_
        rintro e w' ⟨rfl, rfl⟩
        go_wp2_with fail
        refine (mul0_at h1 h2 HM).mono ?_
        rintro e W1 ⟨rfl, hC⟩
        have hB1 := hB0.trans (hC.mono hz0)
        have hz1 := hB1.size
        clear hC hB0 hz0
        go_wp2_with fail
        refine (nan_at HML NM).mono ?_
        rintro e w' ⟨rfl, rfl⟩
        go_wp2_with fail
        refine (inf_at h3 IC).mono ?_
        rintro e w' ⟨rfl, rfl⟩
        go_wp2_with fail
        refine (rsign_any sn _).mono ?_
        rintro e w' ⟨rfl, rfl⟩
        go_wp2_with fail
        refine (rsign_any sn _).mono ?_
        rintro e w' ⟨rfl, rfl⟩
        go_wp2
        go_ret
        exact ⟨by rw [HE.out]; try rfl, hB1⟩
      · have HE : Hid (fmaP way a b c = 2143289344) := Lib.hid (by unfold fmaP; rw [if_neg hno, if_pos (.inr hib), if_pos ⟨hic, by rw [SN.out, hI]; exact hcI⟩])
        have bcI : ((c : Int) != (I : Int)) = true := by rw [bne_iff_ne]; omega
        clear hna hnb hnc hnm hm hia hib hno hic hI hcI
        go_enter Try.func12, Try.ntmps12
        have hB0 := Below.refl w.heap.size w
        have hz0 := hB0.size
        go_wp2_with fail
        refine (inf_at h1 IA).mono ?_
        rintro e w' ⟨rfl, rfl⟩
        go_wp2_with fail
        refine (inf_at h2 IB).mono ?_
        rintro e w' ⟨rfl, rfl⟩
        go_wp2_with fail
        refine (nan_at h1 NA).mono ?_
        rintro e w' ⟨rfl, rfl⟩
        go_wp2_with fail
        refine (nan_at h2 NB).mono ?_
        rintro e w' ⟨rfl, rfl⟩
        go_wp2_with fail
        refine (nan_at h3 NC).mono ?_
        rintro e w' ⟨rfl, rfl⟩
        go_wp2_with fail
        refine (mul0_at h1 h2 HM).mono ?_
        rintro e W1 ⟨rfl, hC⟩
        have hB1 := hB0.trans (hC.mono hz0)
        have hz1 := hB1.size
        clear hC hB0 hz0
        go_wp2_with fail
        refine (nan_at HML NM).mono ?_
        rintro e w' ⟨rfl, rfl⟩
        go_wp2_with fail
        refine (inf_at h3 IC).mono ?_
        rintro e w' ⟨rfl, rfl⟩
        go_wp2_with fail
        refine (rsign_any sn _).mono ?_
        rintro e w' ⟨rfl, rfl⟩
        go_wp2
        go_ret
        exact ⟨by rw [HE.out]; try rfl, hB1⟩
  have IB := Lib.hid hib
  have hno2 : ¬ (infP a = true ∨ infP b = true) := by rw [hia, hib]; simp
  cases hic : infP c
  case true =>
    have IC := Lib.hid hic
    have HE : Hid (fmaP way a b c = c) := Lib.hid (by unfold fmaP; rw [if_neg hno, if_neg hno2, if_pos hic])
    clear hna hnb hnc hnm hm hia hib hno hno2 hic hI
    go_enter Try.func12, Try.ntmps12
    have hB0 := Below.refl w.heap.size w
    have hz0 := hB0.size
    go_wp2_with fail
    refine (inf_at h1 IA).mono ?_
    rintro e w' ⟨rfl, rfl⟩
    go_wp2_with fail
    refine (inf_at h2 IB).mono ?_
    rintro e w' ⟨rfl, rfl⟩
    go_wp2_with fail
    refine (nan_at h1 NA).mono ?_
    rintro e w' ⟨rfl, rfl⟩
    go_wp2_with fail
    refine (nan_at h2 NB).mono ?_
    rintro e w' ⟨rfl, rfl⟩
    go_wp2_with fail
    refine (nan_at h3 NC).mono ?_
    rintro e w' ⟨rfl, rfl⟩
    go_wp2_with fail
    refine (mul0_at h1 h2 HM).mono ?_
    rintro e W1 ⟨rfl, hC⟩
    have hB1 := hB0.trans (hC.mono hz0)
    have hz1 := hB1.size
    clear hC hB0 hz0
    go_wp2_with fail
    refine (nan_at HML NM).mono ?_
    rintro e w' ⟨rfl, rfl⟩
    go_wp2_with fail
    refine (inf_at h3 IC).mono ?_
    rintro e w' ⟨rfl, rfl⟩
    go_wp2
    go_ret
    exact ⟨by rw [HE.out]; try rfl, hB1⟩
  have IC := Lib.hid hic
  have HE0 : Hid (fmaP way a b c = finP way sn c (oE a + oE b) (oS a * oS b) (oN c) (oE c) (oS c)) := Lib.hid (by unfold fmaP; rw [if_neg hno, if_neg hno2, if_neg (by rw [hic]; simp), SN.out])
  obtain ⟨ox1, ox2, ox3⟩ := o_bounds a
  obtain ⟨oy1, oy2, oy3⟩ := o_bounds b
  obtain ⟨oz1, oz2, oz3⟩ := o_bounds c
  obtain ⟨xe, hxe⟩ : ∃ x, oE a = x := ⟨_, rfl⟩
  obtain ⟨xs, hxs⟩ : ∃ x, oS a = x := ⟨_, rfl⟩
  obtain ⟨ye, hye⟩ : ∃ x, oE b = x := ⟨_, rfl⟩
  obtain ⟨ys, hys⟩ : ∃ x, oS b = x := ⟨_, rfl⟩
  obtain ⟨ze, hze⟩ : ∃ x, oE c = x := ⟨_, rfl⟩
  obtain ⟨zs, hzs⟩ : ∃ x, oS c = x := ⟨_, rfl⟩
  obtain ⟨zn, hzn⟩ : ∃ x, oN c = x := ⟨_, rfl⟩
  rw [hxe, hxs, hye, hys, hze, hzs, hzn] at HE0
  rw [hxe] at ox2 ox3
  rw [hxs] at ox1
  rw [hye] at oy2 oy3
  rw [hys] at oy1
  rw [hze] at oz2 oz3
  rw [hzs] at oz1
  have HXE := Lib.hid hxe
  have HXS := Lib.hid hxs
  have HYE := Lib.hid hye
  have HYS := Lib.hid hys
  have HZE := Lib.hid hze
  have HZS := Lib.hid hzs
  have HZN := Lib.hid hzn
  obtain ⟨P, hP⟩ : ∃ x, xs * ys = x := ⟨_, rfl⟩
  have hpr : P < 281474976710656 := by
    have h1 := Nat.mul_le_mul (show xs ≤ 16777215 by omega) (show ys ≤ 16777215 by omega)
    omega
  have hmulc : (xs : Int) * (ys : Int) = (P : Int) := by rw [← Int.natCast_mul, hP]
  rw [hP] at HE0
  clear hna hnb hnc hnm hm hia hib hno hno2 hic hI hxe hxs hye hys hze hzs hzn hP hor I
  by_cases hp0 : P = 0
  case pos =>
    have bp : ((P : Int) == 0) = true := int_eq (y := 0) hp0
    by_cases hz0 : zs = 0
    · have bz : ((zs : Int) == 0) = true := int_eq (y := 0) hz0
      by_cases hzn : zn = sn
      · have bn : (zn == sn) = true := by rw [hzn]; simp
        have HE : Hid (fmaP way a b c = c) := Lib.hid (by rw [HE0.out, finP, if_pos ⟨hp0, hz0⟩, if_pos hzn])
        clear HE0 hp0 hz0 hzn
        go_enter Try.func12, Try.ntmps12
        have hB0 := Below.refl w.heap.size w
        have hz0 := hB0.size
        go_wp2_with fail
        refine (inf_at h1 IA).mono ?_
        rintro e w' ⟨rfl, rfl⟩
        go_wp2_with fail
        refine (inf_at h2 IB).mono ?_
        rintro e w' ⟨rfl, rfl⟩
        go_wp2_with fail
        refine (nan_at h1 NA).mono ?_
        rintro e w' ⟨rfl, rfl⟩
        go_wp2_with fail
        refine (nan_at h2 NB).mono ?_
        rintro e w' ⟨rfl, rfl⟩
        go_wp2_with fail
        refine (nan_at h3 NC).mono ?_
        rintro e w' ⟨rfl, rfl⟩
        go_wp2_with fail
        refine (mul0_at h1 h2 HM).mono ?_
        rintro e W1 ⟨rfl, hC⟩
        have hB1 := hB0.trans (hC.mono hz0)
        have hz1 := hB1.size
        clear hC hB0 hz0
        go_wp2_with fail
        refine (nan_at HML NM).mono ?_
        rintro e w' ⟨rfl, rfl⟩
        go_wp2_with fail
        refine (inf_at h3 IC).mono ?_
        rintro e w' ⟨rfl, rfl⟩
        go_wp2_with fail
        refine (ropen_any a _ h1).mono ?_
        rintro e W2 ⟨rfl, hC⟩
        have hB2 := hB1.trans (hC.mono hz1)
        have hz2 := hB2.size
        clear hC hB1 hz1
        go_wp2_with fail
        refine (ropen_any b _ h2).mono ?_
        rintro e W3 ⟨rfl, hC⟩
        have hB3 := hB2.trans (hC.mono hz2)
        have hz3 := hB3.size
        clear hC hB2 hz2
        go_wp2_with fail
        refine (ropen_any c _ h3).mono ?_
        rintro e W4 ⟨rfl, hC⟩
        have hB4 := hB3.trans (hC.mono hz3)
        have hz4 := hB4.size
        clear hC hB3 hz3
        simp only [HXE.out, HXS.out, HYE.out, HYS.out, HZN.out, HZE.out, HZS.out]
        go_wp2
        go_ret
        exact ⟨by rw [HE.out]; try rfl, ((((hB4.alloc hz4 _).alloc (by simp; omega) _).alloc (by simp; omega) _).alloc (by simp; omega) _)⟩
      · have bn : (zn == sn) = false := by rw [beq_eq_false_iff_ne]; exact hzn
        have HE : Hid (fmaP way a b c = sgn (way == 2)) := Lib.hid (by rw [HE0.out, finP, if_pos ⟨hp0, hz0⟩, if_neg hzn])
        clear HE0 hp0 hz0 hzn
        go_enter Try.func12, Try.ntmps12
        have hB0 := Below.refl w.heap.size w
        have hz0 := hB0.size
        go_wp2_with fail
        refine (inf_at h1 IA).mono ?_
        rintro e w' ⟨rfl, rfl⟩
        go_wp2_with fail
        refine (inf_at h2 IB).mono ?_
        rintro e w' ⟨rfl, rfl⟩
        go_wp2_with fail
        refine (nan_at h1 NA).mono ?_
        rintro e w' ⟨rfl, rfl⟩
        go_wp2_with fail
        refine (nan_at h2 NB).mono ?_
        rintro e w' ⟨rfl, rfl⟩
        go_wp2_with fail
        refine (nan_at h3 NC).mono ?_
        rintro e w' ⟨rfl, rfl⟩
        go_wp2_with fail
        refine (mul0_at h1 h2 HM).mono ?_
        rintro e W1 ⟨rfl, hC⟩
        have hB1 := hB0.trans (hC.mono hz0)
        have hz1 := hB1.size
        clear hC hB0 hz0
        go_wp2_with fail
        refine (nan_at HML NM).mono ?_
        rintro e w' ⟨rfl, rfl⟩
        go_wp2_with fail
        refine (inf_at h3 IC).mono ?_
        rintro e w' ⟨rfl, rfl⟩
        go_wp2_with fail
        refine (ropen_any a _ h1).mono ?_
        rintro e W2 ⟨rfl, hC⟩
        have hB2 := hB1.trans (hC.mono hz1)
        have hz2 := hB2.size
        clear hC hB1 hz1
        go_wp2_with fail
        refine (ropen_any b _ h2).mono ?_
        rintro e W3 ⟨rfl, hC⟩
        have hB3 := hB2.trans (hC.mono hz2)
        have hz3 := hB3.size
        clear hC hB2 hz2
        go_wp2_with fail
        refine (ropen_any c _ h3).mono ?_
        rintro e W4 ⟨rfl, hC⟩
        have hB4 := hB3.trans (hC.mono hz3)
        have hz4 := hB4.size
        clear hC hB3 hz3
        simp only [HXE.out, HXS.out, HYE.out, HYS.out, HZN.out, HZE.out, HZS.out]
        go_wp2_with fail
        refine (rsign_any _ _).mono ?_
        rintro e w' ⟨rfl, rfl⟩
        go_wp2
        go_ret
        exact ⟨by rw [HE.out]; try rfl, ((((hB4.alloc hz4 _).alloc (by simp; omega) _).alloc (by simp; omega) _).alloc (by simp; omega) _)⟩
    · have bz : ((zs : Int) == 0) = false := int_ne (y := 0) hz0
      have HE : Hid (fmaP way a b c = c) := Lib.hid (by rw [HE0.out, finP, if_neg (by omega), if_pos hp0])
      clear HE0 hp0 hz0
      go_enter Try.func12, Try.ntmps12
      have hB0 := Below.refl w.heap.size w
      have hz0 := hB0.size
      go_wp2_with fail
      refine (inf_at h1 IA).mono ?_
      rintro e w' ⟨rfl, rfl⟩
      go_wp2_with fail
      refine (inf_at h2 IB).mono ?_
      rintro e w' ⟨rfl, rfl⟩
      go_wp2_with fail
      refine (nan_at h1 NA).mono ?_
      rintro e w' ⟨rfl, rfl⟩
      go_wp2_with fail
      refine (nan_at h2 NB).mono ?_
      rintro e w' ⟨rfl, rfl⟩
      go_wp2_with fail
      refine (nan_at h3 NC).mono ?_
      rintro e w' ⟨rfl, rfl⟩
      go_wp2_with fail
      refine (mul0_at h1 h2 HM).mono ?_
      rintro e W1 ⟨rfl, hC⟩
      have hB1 := hB0.trans (hC.mono hz0)
      have hz1 := hB1.size
      clear hC hB0 hz0
      go_wp2_with fail
      refine (nan_at HML NM).mono ?_
      rintro e w' ⟨rfl, rfl⟩
      go_wp2_with fail
      refine (inf_at h3 IC).mono ?_
      rintro e w' ⟨rfl, rfl⟩
      go_wp2_with fail
      refine (ropen_any a _ h1).mono ?_
      rintro e W2 ⟨rfl, hC⟩
      have hB2 := hB1.trans (hC.mono hz1)
      have hz2 := hB2.size
      clear hC hB1 hz1
      go_wp2_with fail
      refine (ropen_any b _ h2).mono ?_
      rintro e W3 ⟨rfl, hC⟩
      have hB3 := hB2.trans (hC.mono hz2)
      have hz3 := hB3.size
      clear hC hB2 hz2
      go_wp2_with fail
      refine (ropen_any c _ h3).mono ?_
      rintro e W4 ⟨rfl, hC⟩
      have hB4 := hB3.trans (hC.mono hz3)
      have hz4 := hB4.size
      clear hC hB3 hz3
      simp only [HXE.out, HXS.out, HYE.out, HYS.out, HZN.out, HZE.out, HZS.out]
      go_wp2
      go_ret
      exact ⟨by rw [HE.out]; try rfl, ((((hB4.alloc hz4 _).alloc (by simp; omega) _).alloc (by simp; omega) _).alloc (by simp; omega) _)⟩
  have bp : ((P : Int) == 0) = false := int_ne (y := 0) hp0
  by_cases hz0 : zs = 0
  case pos =>
    have bz : ((zs : Int) == 0) = true := int_eq (y := 0) hz0
    have HE : Hid (fmaP way a b c = roundP way sn (xe + ye) P false) := Lib.hid (by rw [HE0.out, finP, if_neg (by omega), if_neg hp0, if_pos hz0])
    clear HE0 hp0 hz0
    go_enter Try.func12, Try.ntmps12
    have hB0 := Below.refl w.heap.size w
    have hz0 := hB0.size
    go_wp2_with fail
    refine (inf_at h1 IA).mono ?_
    rintro e w' ⟨rfl, rfl⟩
    go_wp2_with fail
    refine (inf_at h2 IB).mono ?_
    rintro e w' ⟨rfl, rfl⟩
    go_wp2_with fail
    refine (nan_at h1 NA).mono ?_
    rintro e w' ⟨rfl, rfl⟩
    go_wp2_with fail
    refine (nan_at h2 NB).mono ?_
    rintro e w' ⟨rfl, rfl⟩
    go_wp2_with fail
    refine (nan_at h3 NC).mono ?_
    rintro e w' ⟨rfl, rfl⟩
    go_wp2_with fail
    refine (mul0_at h1 h2 HM).mono ?_
    rintro e W1 ⟨rfl, hC⟩
    have hB1 := hB0.trans (hC.mono hz0)
    have hz1 := hB1.size
    clear hC hB0 hz0
    go_wp2_with fail
    refine (nan_at HML NM).mono ?_
    rintro e w' ⟨rfl, rfl⟩
    go_wp2_with fail
    refine (inf_at h3 IC).mono ?_
    rintro e w' ⟨rfl, rfl⟩
    go_wp2_with fail
    refine (ropen_any a _ h1).mono ?_
    rintro e W2 ⟨rfl, hC⟩
    have hB2 := hB1.trans (hC.mono hz1)
    have hz2 := hB2.size
    clear hC hB1 hz1
    go_wp2_with fail
    refine (ropen_any b _ h2).mono ?_
    rintro e W3 ⟨rfl, hC⟩
    have hB3 := hB2.trans (hC.mono hz2)
    have hz3 := hB3.size
    clear hC hB2 hz2
    go_wp2_with fail
    refine (ropen_any c _ h3).mono ?_
    rintro e W4 ⟨rfl, hC⟩
    have hB4 := hB3.trans (hC.mono hz3)
    have hz4 := hB4.size
    clear hC hB3 hz3
    simp only [HXE.out, HXS.out, HYE.out, HYS.out, HZN.out, HZE.out, HZS.out]
    go_wp2_with fail
    refine (round_at (s := P) rfl (by omega) (by omega) (Lib.hid rfl)).mono ?_
    rintro e w' ⟨rfl, rfl⟩
    go_wp2
    go_ret
    exact ⟨by rw [HE.out]; try rfl, ((((hB4.alloc hz4 _).alloc (by simp; omega) _).alloc (by simp; omega) _).alloc (by simp; omega) _)⟩
  have bz : ((zs : Int) == 0) = false := int_ne (y := 0) hz0
  have HE : Hid (fmaP way a b c = sumF way sn (xe + ye) P zn ze zs) := Lib.hid (by rw [HE0.out, finP, if_neg (by omega), if_neg hp0, if_neg hz0])
  have HP : Hid (0 < P ∧ P < 18446744073709551616) := Lib.hid (by omega)
  have HZ : Hid (0 < zs ∧ zs < 18446744073709551616) := Lib.hid (by omega)
  clear HE0 hp0 hz0
  go_enter Try.func12, Try.ntmps12
  have hB0 := Below.refl w.heap.size w
  have hz0 := hB0.size
  go_wp2_with fail
  refine (inf_at h1 IA).mono ?_
  rintro e w' ⟨rfl, rfl⟩
  go_wp2_with fail
  refine (inf_at h2 IB).mono ?_
  rintro e w' ⟨rfl, rfl⟩
  go_wp2_with fail
  refine (nan_at h1 NA).mono ?_
  rintro e w' ⟨rfl, rfl⟩
  go_wp2_with fail
  refine (nan_at h2 NB).mono ?_
  rintro e w' ⟨rfl, rfl⟩
  go_wp2_with fail
  refine (nan_at h3 NC).mono ?_
  rintro e w' ⟨rfl, rfl⟩
  go_wp2_with fail
  refine (mul0_at h1 h2 HM).mono ?_
  rintro e W1 ⟨rfl, hC⟩
  have hB1 := hB0.trans (hC.mono hz0)
  have hz1 := hB1.size
  clear hC hB0 hz0
  go_wp2_with fail
  refine (nan_at HML NM).mono ?_
  rintro e w' ⟨rfl, rfl⟩
  go_wp2_with fail
  refine (inf_at h3 IC).mono ?_
  rintro e w' ⟨rfl, rfl⟩
  go_wp2_with fail
  refine (ropen_any a _ h1).mono ?_
  rintro e W2 ⟨rfl, hC⟩
  have hB2 := hB1.trans (hC.mono hz1)
  have hz2 := hB2.size
  clear hC hB1 hz1
  go_wp2_with fail
  refine (ropen_any b _ h2).mono ?_
  rintro e W3 ⟨rfl, hC⟩
  have hB3 := hB2.trans (hC.mono hz2)
  have hz3 := hB3.size
  clear hC hB2 hz2
  go_wp2_with fail
  refine (ropen_any c _ h3).mono ?_
  rintro e W4 ⟨rfl, hC⟩
  have hB4 := hB3.trans (hC.mono hz3)
  have hz4 := hB4.size
  clear hC hB3 hz3
  simp only [HXE.out, HXS.out, HYE.out, HYS.out, HZN.out, HZE.out, HZS.out]
  go_wp2_with fail
  refine (sum_any HP HZ (by omega) (by omega) (Lib.hid rfl)).mono ?_
  rintro e W5 ⟨rfl, hC⟩
  have hB5 := ((((hB4.alloc hz4 _).alloc (by simp; omega) _).alloc (by simp; omega) _).alloc (by simp; omega) _).trans (hC.mono (by simp; omega))
  go_wp2
  go_ret
  exact ⟨by rw [HE.out]; try rfl, hB5⟩
end Go.Proofs.Ytanccobllehnaaa
