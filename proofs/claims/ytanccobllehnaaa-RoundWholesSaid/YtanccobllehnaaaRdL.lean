/- The contracts of round.whole, Floor, Ceil, Even. -/
import Derived.Test.YtanccobllehnaaaRdI
import Derived.Deep.CutRange
import Derived.BigQuiet
import Derived.Deep.QuietTactic
namespace Go.Proofs.Ytanccobllehnaaa
open Go.RowKit

/-- what is left, held against a half -/
def halfP (l d : Nat) : Int := if two (d - 1) < l then 1 else if l = two (d - 1) then 0 else -1
def upP (how : Nat) (neg : Bool) (half : Int) (odd : Bool) : Bool := if how = 0 then neg else if how = 1 then !neg else decide (0 < half) || (decide (half = 0) && odd)
/-- a whole float by a, as its code has it: 0 Floor, 1 Ceil, 2 Even -/
def wholeP (how a : Nat) : Nat :=
  if nanP a = true then 2143289344 else if infP a = true ∨ 0 ≤ oE a ∨ oS a = 0 then a
  else if oS a % two (-oE a).toNat = 0 then a
  else roundP 0 (oN a) 0 (if upP how (oN a) (halfP (oS a % two (-oE a).toNat) (-oE a).toNat) (decide (oS a / two (-oE a).toNat % 2 = 1)) = true then oS a / two (-oE a).toNat + 1 else oS a / two (-oE a).toNat) false
theorem low_1 {n : Nat} (h : n < 18446744073709551616) : (bits .and .u64 (n : Int) 1 == 1) = decide (n % 2 = 1) := by
  have hb : bits .and .u64 (n : Int) 1 = ((n % 2 : Nat) : Int) := by
    have := bits_mask .u64 64 (by decide) (fun n h0 h1 => by rw [IntKind.wrap_u64]; omega) 1 (by decide) (n : Int) (by omega) (by omega)
    simpa using this
  rw [hb]
  by_cases h1 : n % 2 = 1
  · rw [decide_eq_true h1, beq_iff_eq]; omega
  · rw [decide_eq_false h1, beq_eq_false_iff_ne]; omega
theorem up0 {neg odd r : Bool} {half : Int} {w : World} (hr : Hid (upP 0 neg half odd = r)) :
    Calls Try.prog 63 #[.bool neg, .int .i64 half, .bool odd] w fun e w' => e = .returned (.bool r) ∧ w' = w := by
  have HE : Hid (r = neg) := Lib.hid (by rw [← hr.out]; rfl)
  go_enter Try.func63, Try.ntmps63
  go_wp2
  go_ret
  exact ⟨by rw [HE.out]; try rfl, rfl⟩
theorem up1 {neg odd r : Bool} {half : Int} {w : World} (hr : Hid (upP 1 neg half odd = r)) :
    Calls Try.prog 64 #[.bool neg, .int .i64 half, .bool odd] w fun e w' => e = .returned (.bool r) ∧ w' = w := by
  have HE : Hid (r = !neg) := Lib.hid (by rw [← hr.out]; rfl)
  go_enter Try.func64, Try.ntmps64
  go_wp2
  go_ret
  exact ⟨by rw [HE.out]; try rfl, rfl⟩
theorem up2 {neg odd r : Bool} {half : Int} {w : World} (hr : Hid (upP 2 neg half odd = r)) :
    Calls Try.prog 65 #[.bool neg, .int .i64 half, .bool odd] w fun e w' => e = .returned (.bool r) ∧ w' = w := by
  have HE0 : Hid (r = (decide (0 < half) || (decide (half = 0) && odd))) := Lib.hid (by rw [← hr.out]; rfl)
  by_cases h1 : 0 < half
  · have HE : Hid (r = true) := Lib.hid (by rw [HE0.out, decide_eq_true h1]; rfl)
    go_enter Try.func65, Try.ntmps65
    go_wp2
    go_ret
    exact ⟨by rw [HE.out]; try rfl, rfl⟩
  · by_cases h2 : half = 0
    · have HE : Hid (r = odd) := Lib.hid (by rw [HE0.out, decide_eq_false h1, decide_eq_true h2]; rfl)
      subst h2
      go_enter Try.func65, Try.ntmps65
      go_wp2
      go_ret
      exact ⟨by rw [HE.out]; try rfl, rfl⟩
    · have HE : Hid (r = false) := Lib.hid (by rw [HE0.out, decide_eq_false h1, decide_eq_false h2]; rfl)
      have b2 : (half == 0) = false := by rw [beq_eq_false_iff_ne]; exact h2
      go_enter Try.func65, Try.ntmps65
      go_wp2
      go_ret
      exact ⟨by rw [HE.out]; try rfl, rfl⟩
set_option maxRecDepth 100000 in
set_option maxHeartbeats 1600000 in
theorem whole0_any (a : Nat) (w : World) (h : Hid (a < 4294967296)) :
    Calls Try.prog 62 #[.int .u32 (a : Int), .func (.func 63) #[] #[]] w (BR w (wholeP 0 a)) := by
  cases hna : nanP a
  case true =>
    have NA := Lib.hid hna
    have HE : Hid (wholeP 0 a = 2143289344) := Lib.hid (by unfold wholeP; rw [if_pos hna])
    clear hna
    go_enter Try.func62, Try.ntmps62
    go_wp2_with fail
    refine (nan_at h NA).mono ?_
    rintro e' w' ⟨rfl, rfl⟩
    go_wp2
    go_ret
    exact ⟨by rw [HE.out]; try rfl, Below.refl _ _⟩
  have NA := Lib.hid hna
  have hno : ¬ nanP a = true := by rw [hna]; decide
  obtain ⟨ob1, ob2, ob3⟩ := o_bounds a
  obtain ⟨ia, hia⟩ : ∃ x, infP a = x := ⟨_, rfl⟩
  obtain ⟨s, hss⟩ : ∃ s, oS a = s := ⟨_, rfl⟩
  obtain ⟨e, hee⟩ : ∃ e, oE a = e := ⟨_, rfl⟩
  obtain ⟨nb, hnb⟩ : ∃ e, oN a = e := ⟨_, rfl⟩
  have HE0 : Hid (wholeP 0 a = if ia = true ∨ 0 ≤ e ∨ s = 0 then a else if s % two (-e).toNat = 0 then a
    else roundP 0 nb 0 (if upP 0 nb (halfP (s % two (-e).toNat) (-e).toNat) (decide (s / two (-e).toNat % 2 = 1)) = true then s / two (-e).toNat + 1 else s / two (-e).toNat) false) := Lib.hid (by
      unfold wholeP; rw [if_neg hno, hia, hss, hee, hnb])
  rw [hss] at ob1
  rw [hee] at ob2 ob3
  have IA := Lib.hid hia
  have HSS := Lib.hid hss
  have HEE := Lib.hid hee
  have HNB := Lib.hid hnb
  clear hna hno hia hss hee hnb
  cases ia
  case true =>
    have HE : Hid (wholeP 0 a = a) := Lib.hid (by rw [HE0.out, if_pos (.inl rfl)])
    clear HE0
    go_enter Try.func62, Try.ntmps62
    go_wp2_with fail
    refine (nan_at h NA).mono ?_
    rintro e' w' ⟨rfl, rfl⟩
    go_wp2_with fail
    refine (ropen_any a _ h).mono ?_
    rintro e' w1 ⟨rfl, hB1⟩
    rw [HNB.out, HSS.out, HEE.out]
    go_wp2_with fail
    refine (inf_at h IA).mono ?_
    rintro e' w' ⟨rfl, rfl⟩
    go_wp2
    go_ret
    exact ⟨by rw [HE.out]; try rfl, hB1.alloc hB1.size _⟩
  by_cases he : 0 ≤ e
  case pos =>
    have HE : Hid (wholeP 0 a = a) := Lib.hid (by rw [HE0.out, if_pos (.inr (.inl he))])
    clear HE0
    go_enter Try.func62, Try.ntmps62
    go_wp2_with fail
    refine (nan_at h NA).mono ?_
    rintro e' w' ⟨rfl, rfl⟩
    go_wp2_with fail
    refine (ropen_any a _ h).mono ?_
    rintro e' w1 ⟨rfl, hB1⟩
    rw [HNB.out, HSS.out, HEE.out]
    go_wp2_with fail
    refine (inf_at h IA).mono ?_
    rintro e' w' ⟨rfl, rfl⟩
    go_wp2
    go_ret
    exact ⟨by rw [HE.out]; try rfl, hB1.alloc hB1.size _⟩
  obtain ⟨d, hd⟩ : ∃ d : Nat, e = -(d : Int) := ⟨(-e).toNat, by omega⟩
  subst hd
  have hd1 : 1 ≤ d := by omega
  have hd2 : d ≤ 149 := by omega
  have hneg : ¬ (0 : Int) ≤ -(d : Int) := he
  by_cases hs0 : s = 0
  case pos =>
    have HE : Hid (wholeP 0 a = a) := Lib.hid (by rw [HE0.out, if_pos (.inr (.inr hs0))])
    have bs : ((s : Int) == 0) = true := int_eq (y := 0) hs0
    clear HE0 hs0 he
    go_enter Try.func62, Try.ntmps62
    go_wp2_with fail
    refine (nan_at h NA).mono ?_
    rintro e' w' ⟨rfl, rfl⟩
    go_wp2_with fail
    refine (ropen_any a _ h).mono ?_
    rintro e' w1 ⟨rfl, hB1⟩
    rw [HNB.out, HSS.out, HEE.out]
    go_wp2_with fail
    refine (inf_at h IA).mono ?_
    rintro e' w' ⟨rfl, rfl⟩
    go_wp2
    go_ret
    exact ⟨by rw [HE.out]; try rfl, hB1.alloc hB1.size _⟩
  have bs : ((s : Int) == 0) = false := int_ne (y := 0) hs0
  have hdd : (-(-(d : Int))).toNat = d := by omega
  have HE1 : Hid (wholeP 0 a = if s % two d = 0 then a else roundP 0 nb 0 (if upP 0 nb (halfP (s % two d) d) (decide (s / two d % 2 = 1)) = true then s / two d + 1 else s / two d) false) := Lib.hid (by rw [HE0.out, if_neg (by simp [hs0]; omega), hdd])
  have hdm := Nat.div_add_mod s (two d)
  have hml := Nat.mod_lt s (two_pos d)
  obtain ⟨n, hn⟩ : ∃ n, s / two d = n := ⟨_, rfl⟩
  obtain ⟨l, hl⟩ : ∃ n, s % two d = n := ⟨_, rfl⟩
  rw [hn, hl] at hdm HE1
  rw [hl] at hml
  have hnd : n * two d + l = s := by rw [Nat.mul_comm]; exact hdm
  obtain ⟨nd, hnd2⟩ : ∃ x, n * two d = x := ⟨_, rfl⟩
  rw [hnd2] at hnd
  have hns : n ≤ s := by rw [← hn]; exact Nat.div_le_self _ _
  have hq : (s : Int) / 2 ^ min d 64 = (n : Int) := by
    by_cases h64 : d ≤ 64
    · rw [Nat.min_eq_left h64, quo_cast, hn]
    · obtain ⟨e1, e2⟩ := mv_small (s := s) (d := 64) (Nat.le_refl _) (by omega)
      obtain ⟨f1, f2⟩ := mv_small (s := s) (d := d) (by omega) (by omega)
      rw [Nat.min_eq_right (by omega), quo_cast, e1, ← hn, f1]
  have hsh : IntKind.u64.wrap ((n : Int) * 2 ^ min d 64) = (nd : Int) := by
    by_cases h64 : d ≤ 64
    · rw [Nat.min_eq_left h64, two_cast, ← Int.natCast_mul, hnd2, wrap64_nat (by omega)]
    · obtain ⟨f1, f2⟩ := mv_small (s := s) (d := d) (by omega) (by omega)
      rw [hn] at f1
      rw [f1, Nat.zero_mul] at hnd2
      rw [f1, ← hnd2, show ((0 : Nat) : Int) = 0 from rfl, Int.zero_mul]
      exact IntWalk.u64_in 0 (by omega)
  have hsub : (s : Int) - (nd : Int) = (l : Int) := by omega
  have hsub2 : IntKind.u64.wrap ((s : Int) - (nd : Int)) = (l : Int) := by rw [hsub]; exact wrap64_nat (by omega)
  have hlow := low_1 (n := n) (by omega)
  obtain ⟨od, hod⟩ : ∃ o, decide (n % 2 = 1) = o := ⟨_, rfl⟩
  rw [hod] at hlow HE1
  have hls : l < 16777216 := by omega
  have hn24 : n < 16777216 := by omega
  have HD1 := Lib.hid hd1
  have hq1 : ((s : Int) / 2 ^ d) = (n : Int) := by rw [quo_cast, hn]
  clear HE0 hs0 he hdm hn hnd hnd2 hod hml hl
  by_cases hl0 : l = 0
  case pos =>
    have HE : Hid (wholeP 0 a = a) := Lib.hid (by rw [HE1.out, if_pos hl0])
    have bl : ((l : Int) == 0) = true := int_eq (y := 0) hl0
    clear HE1 hl0
    go_enter Try.func62, Try.ntmps62
    go_wp2_with fail
    refine (nan_at h NA).mono ?_
    rintro e' w' ⟨rfl, rfl⟩
    go_wp2_with fail
    refine (ropen_any a _ h).mono ?_
    rintro e' w1 ⟨rfl, hB1⟩
    rw [HNB.out, HSS.out, HEE.out]
    go_wp2_with fail
    refine (inf_at h IA).mono ?_
    rintro e' w' ⟨rfl, rfl⟩
    go_wp2
    go_quiet (fail)
    go_wp2
    go_ret
    exact ⟨by rw [HE.out]; try rfl, below_drewN (hB1.alloc hB1.size _) nq⟩
  have bl : ((l : Int) == 0) = false := int_ne (y := 0) hl0
  have HE2 : Hid (wholeP 0 a = roundP 0 nb 0 (if upP 0 nb (halfP l d) od = true then n + 1 else n) false) := Lib.hid (by rw [HE1.out, if_neg hl0])
  clear HE1 hl0
  obtain ⟨hv, hhv⟩ : ∃ v, halfP l d = v := ⟨_, rfl⟩
  rw [hhv] at HE2
  have HHV := Lib.hid hhv
  clear hhv
  go_enter Try.func62, Try.ntmps62
  go_wp2_with fail
  refine (nan_at h NA).mono ?_
  rintro e' w' ⟨rfl, rfl⟩
  go_wp2_with fail
  refine (ropen_any a _ h).mono ?_
  rintro e' w1 ⟨rfl, hB1⟩
  rw [HNB.out, HSS.out, HEE.out]
  go_wp2_with fail
  refine (inf_at h IA).mono ?_
  rintro e' w' ⟨rfl, rfl⟩
  go_wp2
  go_quiet (fail)
  have hB2 := below_drewN (hB1.alloc hB1.size (.cells #[.bool nb, .int .i64 (-(d : Int)), .int .u64 (s : Int)] 46)) nq
  have hk := (Blk.new w1 46 #[.bool nb, .int .i64 (-(d : Int)), .int .u64 (s : Int)]).drewN nq
  generalize (w1.alloc (.cells #[.bool nb, .int .i64 (-(d : Int)), .int .u64 (s : Int)] 46)).drewN nq = W2 at *
  have k0 := hk.cell 0
  have k1 := hk.cell 1
  simp at k0 k1
  clear hk
  go_upto_if 46 with fail
  obtain ⟨sw, hsw⟩ : ∃ b, decide ((d : Int) ≤ 24) = b := ⟨_, rfl⟩
  simp only [hsw]
  have HSW := Lib.hid hsw
  clear hsw
  go_cut [8, 9] from 47 to 59 (fun hvv _ wx => hvv = .int .i64 hv ∧ wx = W2)
  case first =>
    by_cases h24 : d ≤ 24
    · obtain rfl : sw = true := HSW.out.symm.trans (decide_eq_true (by omega))
      have hhalf := half_cast (d := d) (by omega) HD1.out
      have hcnt : ((d : Int) - 1).toNat = d - 1 := by omega
      have hcc : ((d : Int) - 1) = ((d - 1 : Nat) : Int) := by omega
      obtain ⟨md, hmd⟩ : ∃ m, two (d - 1) = m := ⟨_, rfl⟩
      rw [hmd] at hhalf
      have HM := Lib.hid hmd
      clear hmd
      by_cases h1 : md < l
      · have h1' : (md : Int) < (l : Int) := by omega
        have HV1 : Hid (hv = 1) := Lib.hid (by rw [← HHV.out, halfP, HM.out, if_pos h1])
        go_wp2
        go_meet
        case rel => exact ⟨by rw [HV1.out], rfl⟩
      · have h1' : ¬ (md : Int) < (l : Int) := by omega
        by_cases h2 : l = md
        · have HV1 : Hid (hv = 0) := Lib.hid (by rw [← HHV.out, halfP, HM.out, if_neg h1, if_pos h2])
          have b2 : ((l : Int) == (md : Int)) = true := int_eq h2
          clear h2
          go_wp2
          go_meet
          case rel => exact ⟨by rw [HV1.out], rfl⟩
        · have HV1 : Hid (hv = -1) := Lib.hid (by rw [← HHV.out, halfP, HM.out, if_neg h1, if_neg h2])
          have b2 : ((l : Int) == (md : Int)) = false := int_ne h2
          go_wp2
          go_meet
          case rel => exact ⟨by rw [HV1.out], rfl⟩
    · obtain rfl : sw = false := HSW.out.symm.trans (decide_eq_false (by omega))
      have h5 := two_le (show 24 ≤ d - 1 by omega)
      rw [two_24] at h5
      have HV1 : Hid (hv = -1) := Lib.hid (by rw [← HHV.out, halfP, if_neg (by omega), if_neg (by omega)])
      go_wp2
      go_meet
      case rel => exact ⟨by rw [HV1.out], rfl⟩
  case rest =>
    obtain ⟨rfl, rfl⟩ := hcut
    obtain ⟨up, hup⟩ : ∃ u, upP 0 nb hv od = u := ⟨_, rfl⟩
    have HU := Lib.hid hup
    rw [hup] at HE2
    clear hup
    go_wp2_with fail
    refine (up0 HU).mono ?_
    rintro e' w' ⟨rfl, rfl⟩
    cases up
    · go_wp2_with fail
      refine (round_at (s := n) rfl (by omega) (by omega) (Lib.hid rfl)).mono ?_
      rintro e' w' ⟨rfl, rfl⟩
      go_wp2
      go_ret
      exact ⟨by rw [HE2.out]; try rfl, hB2⟩
    · go_wp2_with fail
      refine (round_at (s := n + 1) (by first | rfl | simp) (by omega) (by omega) (Lib.hid rfl)).mono ?_
      rintro e' w' ⟨rfl, rfl⟩
      go_wp2
      go_ret
      exact ⟨by rw [HE2.out]; try rfl, hB2⟩
theorem floor_any (a : Nat) (w : World) (h : Hid (a < 4294967296)) :
    Calls Try.prog 28 #[.int .u32 (a : Int)] w (BR w (wholeP 0 a)) := by
  go_enter Try.func28, Try.ntmps28
  go_wp2_with fail
  refine (whole0_any a _ h).mono ?_
  rintro e w' ⟨rfl, hb⟩
  go_wp2
  go_ret
  exact ⟨rfl, hb⟩
set_option maxRecDepth 100000 in
set_option maxHeartbeats 1600000 in
theorem whole1_any (a : Nat) (w : World) (h : Hid (a < 4294967296)) :
    Calls Try.prog 62 #[.int .u32 (a : Int), .func (.func 64) #[] #[]] w (BR w (wholeP 1 a)) := by
  cases hna : nanP a
  case true =>
    have NA := Lib.hid hna
    have HE : Hid (wholeP 1 a = 2143289344) := Lib.hid (by unfold wholeP; rw [if_pos hna])
    clear hna
    go_enter Try.func62, Try.ntmps62
    go_wp2_with fail
    refine (nan_at h NA).mono ?_
    rintro e' w' ⟨rfl, rfl⟩
    go_wp2
    go_ret
    exact ⟨by rw [HE.out]; try rfl, Below.refl _ _⟩
  have NA := Lib.hid hna
  have hno : ¬ nanP a = true := by rw [hna]; decide
  obtain ⟨ob1, ob2, ob3⟩ := o_bounds a
  obtain ⟨ia, hia⟩ : ∃ x, infP a = x := ⟨_, rfl⟩
  obtain ⟨s, hss⟩ : ∃ s, oS a = s := ⟨_, rfl⟩
  obtain ⟨e, hee⟩ : ∃ e, oE a = e := ⟨_, rfl⟩
  obtain ⟨nb, hnb⟩ : ∃ e, oN a = e := ⟨_, rfl⟩
  have HE0 : Hid (wholeP 1 a = if ia = true ∨ 0 ≤ e ∨ s = 0 then a else if s % two (-e).toNat = 0 then a
    else roundP 0 nb 0 (if upP 1 nb (halfP (s % two (-e).toNat) (-e).toNat) (decide (s / two (-e).toNat % 2 = 1)) = true then s / two (-e).toNat + 1 else s / two (-e).toNat) false) := Lib.hid (by
      unfold wholeP; rw [if_neg hno, hia, hss, hee, hnb])
  rw [hss] at ob1
  rw [hee] at ob2 ob3
  have IA := Lib.hid hia
  have HSS := Lib.hid hss
  have HEE := Lib.hid hee
  have HNB := Lib.hid hnb
  clear hna hno hia hss hee hnb
  cases ia
  case true =>
    have HE : Hid (wholeP 1 a = a) := Lib.hid (by rw [HE0.out, if_pos (.inl rfl)])
    clear HE0
    go_enter Try.func62, Try.ntmps62
    go_wp2_with fail
    refine (nan_at h NA).mono ?_
    rintro e' w' ⟨rfl, rfl⟩
    go_wp2_with fail
    refine (ropen_any a _ h).mono ?_
    rintro e' w1 ⟨rfl, hB1⟩
    rw [HNB.out, HSS.out, HEE.out]
    go_wp2_with fail
    refine (inf_at h IA).mono ?_
    rintro e' w' ⟨rfl, rfl⟩
    go_wp2
    go_ret
    exact ⟨by rw [HE.out]; try rfl, hB1.alloc hB1.size _⟩
  by_cases he : 0 ≤ e
  case pos =>
    have HE : Hid (wholeP 1 a = a) := Lib.hid (by rw [HE0.out, if_pos (.inr (.inl he))])
    clear HE0
    go_enter Try.func62, Try.ntmps62
    go_wp2_with fail
    refine (nan_at h NA).mono ?_
    rintro e' w' ⟨rfl, rfl⟩
    go_wp2_with fail
    refine (ropen_any a _ h).mono ?_
    rintro e' w1 ⟨rfl, hB1⟩
    rw [HNB.out, HSS.out, HEE.out]
    go_wp2_with fail
    refine (inf_at h IA).mono ?_
    rintro e' w' ⟨rfl, rfl⟩
    go_wp2
    go_ret
    exact ⟨by rw [HE.out]; try rfl, hB1.alloc hB1.size _⟩
  obtain ⟨d, hd⟩ : ∃ d : Nat, e = -(d : Int) := ⟨(-e).toNat, by omega⟩
  subst hd
  have hd1 : 1 ≤ d := by omega
  have hd2 : d ≤ 149 := by omega
  have hneg : ¬ (0 : Int) ≤ -(d : Int) := he
  by_cases hs0 : s = 0
  case pos =>
    have HE : Hid (wholeP 1 a = a) := Lib.hid (by rw [HE0.out, if_pos (.inr (.inr hs0))])
    have bs : ((s : Int) == 0) = true := int_eq (y := 0) hs0
    clear HE0 hs0 he
    go_enter Try.func62, Try.ntmps62
    go_wp2_with fail
    refine (nan_at h NA).mono ?_
    rintro e' w' ⟨rfl, rfl⟩
    go_wp2_with fail
    refine (ropen_any a _ h).mono ?_
    rintro e' w1 ⟨rfl, hB1⟩
    rw [HNB.out, HSS.out, HEE.out]
    go_wp2_with fail
    refine (inf_at h IA).mono ?_
    rintro e' w' ⟨rfl, rfl⟩
    go_wp2
    go_ret
    exact ⟨by rw [HE.out]; try rfl, hB1.alloc hB1.size _⟩
  have bs : ((s : Int) == 0) = false := int_ne (y := 0) hs0
  have hdd : (-(-(d : Int))).toNat = d := by omega
  have HE1 : Hid (wholeP 1 a = if s % two d = 0 then a else roundP 0 nb 0 (if upP 1 nb (halfP (s % two d) d) (decide (s / two d % 2 = 1)) = true then s / two d + 1 else s / two d) false) := Lib.hid (by rw [HE0.out, if_neg (by simp [hs0]; omega), hdd])
  have hdm := Nat.div_add_mod s (two d)
  have hml := Nat.mod_lt s (two_pos d)
  obtain ⟨n, hn⟩ : ∃ n, s / two d = n := ⟨_, rfl⟩
  obtain ⟨l, hl⟩ : ∃ n, s % two d = n := ⟨_, rfl⟩
  rw [hn, hl] at hdm HE1
  rw [hl] at hml
  have hnd : n * two d + l = s := by rw [Nat.mul_comm]; exact hdm
  obtain ⟨nd, hnd2⟩ : ∃ x, n * two d = x := ⟨_, rfl⟩
  rw [hnd2] at hnd
  have hns : n ≤ s := by rw [← hn]; exact Nat.div_le_self _ _
  have hq : (s : Int) / 2 ^ min d 64 = (n : Int) := by
    by_cases h64 : d ≤ 64
    · rw [Nat.min_eq_left h64, quo_cast, hn]
    · obtain ⟨e1, e2⟩ := mv_small (s := s) (d := 64) (Nat.le_refl _) (by omega)
      obtain ⟨f1, f2⟩ := mv_small (s := s) (d := d) (by omega) (by omega)
      rw [Nat.min_eq_right (by omega), quo_cast, e1, ← hn, f1]
  have hsh : IntKind.u64.wrap ((n : Int) * 2 ^ min d 64) = (nd : Int) := by
    by_cases h64 : d ≤ 64
    · rw [Nat.min_eq_left h64, two_cast, ← Int.natCast_mul, hnd2, wrap64_nat (by omega)]
    · obtain ⟨f1, f2⟩ := mv_small (s := s) (d := d) (by omega) (by omega)
      rw [hn] at f1
      rw [f1, Nat.zero_mul] at hnd2
      rw [f1, ← hnd2, show ((0 : Nat) : Int) = 0 from rfl, Int.zero_mul]
      exact IntWalk.u64_in 0 (by omega)
  have hsub : (s : Int) - (nd : Int) = (l : Int) := by omega
  have hsub2 : IntKind.u64.wrap ((s : Int) - (nd : Int)) = (l : Int) := by rw [hsub]; exact wrap64_nat (by omega)
  have hlow := low_1 (n := n) (by omega)
  obtain ⟨od, hod⟩ : ∃ o, decide (n % 2 = 1) = o := ⟨_, rfl⟩
  rw [hod] at hlow HE1
  have hls : l < 16777216 := by omega
  have hn24 : n < 16777216 := by omega
  have HD1 := Lib.hid hd1
  have hq1 : ((s : Int) / 2 ^ d) = (n : Int) := by rw [quo_cast, hn]
  clear HE0 hs0 he hdm hn hnd hnd2 hod hml hl
  by_cases hl0 : l = 0
  case pos =>
    have HE : Hid (wholeP 1 a = a) := Lib.hid (by rw [HE1.out, if_pos hl0])
    have bl : ((l : Int) == 0) = true := int_eq (y := 0) hl0
    clear HE1 hl0
    go_enter Try.func62, Try.ntmps62
    go_wp2_with fail
    refine (nan_at h NA).mono ?_
    rintro e' w' ⟨rfl, rfl⟩
    go_wp2_with fail
    refine (ropen_any a _ h).mono ?_
    rintro e' w1 ⟨rfl, hB1⟩
    rw [HNB.out, HSS.out, HEE.out]
    go_wp2_with fail
    refine (inf_at h IA).mono ?_
    rintro e' w' ⟨rfl, rfl⟩
    go_wp2
    go_quiet (fail)
    go_wp2
    go_ret
    exact ⟨by rw [HE.out]; try rfl, below_drewN (hB1.alloc hB1.size _) nq⟩
  have bl : ((l : Int) == 0) = false := int_ne (y := 0) hl0
  have HE2 : Hid (wholeP 1 a = roundP 0 nb 0 (if upP 1 nb (halfP l d) od = true then n + 1 else n) false) := Lib.hid (by rw [HE1.out, if_neg hl0])
  clear HE1 hl0
  obtain ⟨hv, hhv⟩ : ∃ v, halfP l d = v := ⟨_, rfl⟩
  rw [hhv] at HE2
  have HHV := Lib.hid hhv
  clear hhv
  go_enter Try.func62, Try.ntmps62
  go_wp2_with fail
  refine (nan_at h NA).mono ?_
  rintro e' w' ⟨rfl, rfl⟩
  go_wp2_with fail
  refine (ropen_any a _ h).mono ?_
  rintro e' w1 ⟨rfl, hB1⟩
  rw [HNB.out, HSS.out, HEE.out]
  go_wp2_with fail
  refine (inf_at h IA).mono ?_
  rintro e' w' ⟨rfl, rfl⟩
  go_wp2
  go_quiet (fail)
  have hB2 := below_drewN (hB1.alloc hB1.size (.cells #[.bool nb, .int .i64 (-(d : Int)), .int .u64 (s : Int)] 46)) nq
  have hk := (Blk.new w1 46 #[.bool nb, .int .i64 (-(d : Int)), .int .u64 (s : Int)]).drewN nq
  generalize (w1.alloc (.cells #[.bool nb, .int .i64 (-(d : Int)), .int .u64 (s : Int)] 46)).drewN nq = W2 at *
  have k0 := hk.cell 0
  have k1 := hk.cell 1
  simp at k0 k1
  clear hk
  go_upto_if 46 with fail
  obtain ⟨sw, hsw⟩ : ∃ b, decide ((d : Int) ≤ 24) = b := ⟨_, rfl⟩
  simp only [hsw]
  have HSW := Lib.hid hsw
  clear hsw
  go_cut [8, 9] from 47 to 59 (fun hvv _ wx => hvv = .int .i64 hv ∧ wx = W2)
  case first =>
    by_cases h24 : d ≤ 24
    · obtain rfl : sw = true := HSW.out.symm.trans (decide_eq_true (by omega))
      have hhalf := half_cast (d := d) (by omega) HD1.out
      have hcnt : ((d : Int) - 1).toNat = d - 1 := by omega
      have hcc : ((d : Int) - 1) = ((d - 1 : Nat) : Int) := by omega
      obtain ⟨md, hmd⟩ : ∃ m, two (d - 1) = m := ⟨_, rfl⟩
      rw [hmd] at hhalf
      have HM := Lib.hid hmd
      clear hmd
      by_cases h1 : md < l
      · have h1' : (md : Int) < (l : Int) := by omega
        have HV1 : Hid (hv = 1) := Lib.hid (by rw [← HHV.out, halfP, HM.out, if_pos h1])
        go_wp2
        go_meet
        case rel => exact ⟨by rw [HV1.out], rfl⟩
      · have h1' : ¬ (md : Int) < (l : Int) := by omega
        by_cases h2 : l = md
        · have HV1 : Hid (hv = 0) := Lib.hid (by rw [← HHV.out, halfP, HM.out, if_neg h1, if_pos h2])
          have b2 : ((l : Int) == (md : Int)) = true := int_eq h2
          clear h2
          go_wp2
          go_meet
          case rel => exact ⟨by rw [HV1.out], rfl⟩
        · have HV1 : Hid (hv = -1) := Lib.hid (by rw [← HHV.out, halfP, HM.out, if_neg h1, if_neg h2])
          have b2 : ((l : Int) == (md : Int)) = false := int_ne h2
          go_wp2
          go_meet
          case rel => exact ⟨by rw [HV1.out], rfl⟩
    · obtain rfl : sw = false := HSW.out.symm.trans (decide_eq_false (by omega))
      have h5 := two_le (show 24 ≤ d - 1 by omega)
      rw [two_24] at h5
      have HV1 : Hid (hv = -1) := Lib.hid (by rw [← HHV.out, halfP, if_neg (by omega), if_neg (by omega)])
      go_wp2
      go_meet
      case rel => exact ⟨by rw [HV1.out], rfl⟩
  case rest =>
    obtain ⟨rfl, rfl⟩ := hcut
    obtain ⟨up, hup⟩ : ∃ u, upP 1 nb hv od = u := ⟨_, rfl⟩
    have HU := Lib.hid hup
    rw [hup] at HE2
    clear hup
    go_wp2_with fail
    refine (up1 HU).mono ?_
    rintro e' w' ⟨rfl, rfl⟩
    cases up
    · go_wp2_with fail
      refine (round_at (s := n) rfl (by omega) (by omega) (Lib.hid rfl)).mono ?_
      rintro e' w' ⟨rfl, rfl⟩
      go_wp2
      go_ret
      exact ⟨by rw [HE2.out]; try rfl, hB2⟩
    · go_wp2_with fail
      refine (round_at (s := n + 1) (by first | rfl | simp) (by omega) (by omega) (Lib.hid rfl)).mono ?_
      rintro e' w' ⟨rfl, rfl⟩
      go_wp2
      go_ret
      exact ⟨by rw [HE2.out]; try rfl, hB2⟩
theorem ceil_any (a : Nat) (w : World) (h : Hid (a < 4294967296)) :
    Calls Try.prog 30 #[.int .u32 (a : Int)] w (BR w (wholeP 1 a)) := by
  go_enter Try.func30, Try.ntmps30
  go_wp2_with fail
  refine (whole1_any a _ h).mono ?_
  rintro e w' ⟨rfl, hb⟩
  go_wp2
  go_ret
  exact ⟨rfl, hb⟩
set_option maxRecDepth 100000 in
set_option maxHeartbeats 1600000 in
theorem whole2_any (a : Nat) (w : World) (h : Hid (a < 4294967296)) :
    Calls Try.prog 62 #[.int .u32 (a : Int), .func (.func 65) #[] #[]] w (BR w (wholeP 2 a)) := by
  cases hna : nanP a
  case true =>
    have NA := Lib.hid hna
    have HE : Hid (wholeP 2 a = 2143289344) := Lib.hid (by unfold wholeP; rw [if_pos hna])
    clear hna
    go_enter Try.func62, Try.ntmps62
    go_wp2_with fail
    refine (nan_at h NA).mono ?_
    rintro e' w' ⟨rfl, rfl⟩
    go_wp2
    go_ret
    exact ⟨by rw [HE.out]; try rfl, Below.refl _ _⟩
  have NA := Lib.hid hna
  have hno : ¬ nanP a = true := by rw [hna]; decide
  obtain ⟨ob1, ob2, ob3⟩ := o_bounds a
  obtain ⟨ia, hia⟩ : ∃ x, infP a = x := ⟨_, rfl⟩
  obtain ⟨s, hss⟩ : ∃ s, oS a = s := ⟨_, rfl⟩
  obtain ⟨e, hee⟩ : ∃ e, oE a = e := ⟨_, rfl⟩
  obtain ⟨nb, hnb⟩ : ∃ e, oN a = e := ⟨_, rfl⟩
  have HE0 : Hid (wholeP 2 a = if ia = true ∨ 0 ≤ e ∨ s = 0 then a else if s % two (-e).toNat = 0 then a
    else roundP 0 nb 0 (if upP 2 nb (halfP (s % two (-e).toNat) (-e).toNat) (decide (s / two (-e).toNat % 2 = 1)) = true then s / two (-e).toNat + 1 else s / two (-e).toNat) false) := Lib.hid (by
      unfold wholeP; rw [if_neg hno, hia, hss, hee, hnb])
  rw [hss] at ob1
  rw [hee] at ob2 ob3
  have IA := Lib.hid hia
  have HSS := Lib.hid hss
  have HEE := Lib.hid hee
  have HNB := Lib.hid hnb
  clear hna hno hia hss hee hnb
  cases ia
  case true =>
    have HE : Hid (wholeP 2 a = a) := Lib.hid (by rw [HE0.out, if_pos (.inl rfl)])
    clear HE0
    go_enter Try.func62, Try.ntmps62
    go_wp2_with fail
    refine (nan_at h NA).mono ?_
    rintro e' w' ⟨rfl, rfl⟩
    go_wp2_with fail
    refine (ropen_any a _ h).mono ?_
    rintro e' w1 ⟨rfl, hB1⟩
    rw [HNB.out, HSS.out, HEE.out]
    go_wp2_with fail
    refine (inf_at h IA).mono ?_
    rintro e' w' ⟨rfl, rfl⟩
    go_wp2
    go_ret
    exact ⟨by rw [HE.out]; try rfl, hB1.alloc hB1.size _⟩
  by_cases he : 0 ≤ e
  case pos =>
    have HE : Hid (wholeP 2 a = a) := Lib.hid (by rw [HE0.out, if_pos (.inr (.inl he))])
    clear HE0
    go_enter Try.func62, Try.ntmps62
    go_wp2_with fail
    refine (nan_at h NA).mono ?_
    rintro e' w' ⟨rfl, rfl⟩
    go_wp2_with fail
    refine (ropen_any a _ h).mono ?_
    rintro e' w1 ⟨rfl, hB1⟩
    rw [HNB.out, HSS.out, HEE.out]
    go_wp2_with fail
    refine (inf_at h IA).mono ?_
    rintro e' w' ⟨rfl, rfl⟩
    go_wp2
    go_ret
    exact ⟨by rw [HE.out]; try rfl, hB1.alloc hB1.size _⟩
  obtain ⟨d, hd⟩ : ∃ d : Nat, e = -(d : Int) := ⟨(-e).toNat, by omega⟩
  subst hd
  have hd1 : 1 ≤ d := by omega
  have hd2 : d ≤ 149 := by omega
  have hneg : ¬ (0 : Int) ≤ -(d : Int) := he
  by_cases hs0 : s = 0
  case pos =>
    have HE : Hid (wholeP 2 a = a) := Lib.hid (by rw [HE0.out, if_pos (.inr (.inr hs0))])
    have bs : ((s : Int) == 0) = true := int_eq (y := 0) hs0
    clear HE0 hs0 he
    go_enter Try.func62, Try.ntmps62
    go_wp2_with fail
    refine (nan_at h NA).mono ?_
    rintro e' w' ⟨rfl, rfl⟩
    go_wp2_with fail
    refine (ropen_any a _ h).mono ?_
    rintro e' w1 ⟨rfl, hB1⟩
    rw [HNB.out, HSS.out, HEE.out]
    go_wp2_with fail
    refine (inf_at h IA).mono ?_
    rintro e' w' ⟨rfl, rfl⟩
    go_wp2
    go_ret
    exact ⟨by rw [HE.out]; try rfl, hB1.alloc hB1.size _⟩
  have bs : ((s : Int) == 0) = false := int_ne (y := 0) hs0
  have hdd : (-(-(d : Int))).toNat = d := by omega
  have HE1 : Hid (wholeP 2 a = if s % two d = 0 then a else roundP 0 nb 0 (if upP 2 nb (halfP (s % two d) d) (decide (s / two d % 2 = 1)) = true then s / two d + 1 else s / two d) false) := Lib.hid (by rw [HE0.out, if_neg (by simp [hs0]; omega), hdd])
  have hdm := Nat.div_add_mod s (two d)
  have hml := Nat.mod_lt s (two_pos d)
  obtain ⟨n, hn⟩ : ∃ n, s / two d = n := ⟨_, rfl⟩
  obtain ⟨l, hl⟩ : ∃ n, s % two d = n := ⟨_, rfl⟩
  rw [hn, hl] at hdm HE1
  rw [hl] at hml
  have hnd : n * two d + l = s := by rw [Nat.mul_comm]; exact hdm
  obtain ⟨nd, hnd2⟩ : ∃ x, n * two d = x := ⟨_, rfl⟩
  rw [hnd2] at hnd
  have hns : n ≤ s := by rw [← hn]; exact Nat.div_le_self _ _
  have hq : (s : Int) / 2 ^ min d 64 = (n : Int) := by
    by_cases h64 : d ≤ 64
    · rw [Nat.min_eq_left h64, quo_cast, hn]
    · obtain ⟨e1, e2⟩ := mv_small (s := s) (d := 64) (Nat.le_refl _) (by omega)
      obtain ⟨f1, f2⟩ := mv_small (s := s) (d := d) (by omega) (by omega)
      rw [Nat.min_eq_right (by omega), quo_cast, e1, ← hn, f1]
  have hsh : IntKind.u64.wrap ((n : Int) * 2 ^ min d 64) = (nd : Int) := by
    by_cases h64 : d ≤ 64
    · rw [Nat.min_eq_left h64, two_cast, ← Int.natCast_mul, hnd2, wrap64_nat (by omega)]
    · obtain ⟨f1, f2⟩ := mv_small (s := s) (d := d) (by omega) (by omega)
      rw [hn] at f1
      rw [f1, Nat.zero_mul] at hnd2
      rw [f1, ← hnd2, show ((0 : Nat) : Int) = 0 from rfl, Int.zero_mul]
      exact IntWalk.u64_in 0 (by omega)
  have hsub : (s : Int) - (nd : Int) = (l : Int) := by omega
  have hsub2 : IntKind.u64.wrap ((s : Int) - (nd : Int)) = (l : Int) := by rw [hsub]; exact wrap64_nat (by omega)
  have hlow := low_1 (n := n) (by omega)
  obtain ⟨od, hod⟩ : ∃ o, decide (n % 2 = 1) = o := ⟨_, rfl⟩
  rw [hod] at hlow HE1
  have hls : l < 16777216 := by omega
  have hn24 : n < 16777216 := by omega
  have HD1 := Lib.hid hd1
  have hq1 : ((s : Int) / 2 ^ d) = (n : Int) := by rw [quo_cast, hn]
  clear HE0 hs0 he hdm hn hnd hnd2 hod hml hl
  by_cases hl0 : l = 0
  case pos =>
    have HE : Hid (wholeP 2 a = a) := Lib.hid (by rw [HE1.out, if_pos hl0])
    have bl : ((l : Int) == 0) = true := int_eq (y := 0) hl0
    clear HE1 hl0
    go_enter Try.func62, Try.ntmps62
    go_wp2_with fail
    refine (nan_at h NA).mono ?_
    rintro e' w' ⟨rfl, rfl⟩
    go_wp2_with fail
    refine (ropen_any a _ h).mono ?_
    rintro e' w1 ⟨rfl, hB1⟩
    rw [HNB.out, HSS.out, HEE.out]
    go_wp2_with fail
    refine (inf_at h IA).mono ?_
    rintro e' w' ⟨rfl, rfl⟩
    go_wp2
    go_quiet (fail)
    go_wp2
    go_ret
    exact ⟨by rw [HE.out]; try rfl, below_drewN (hB1.alloc hB1.size _) nq⟩
  have bl : ((l : Int) == 0) = false := int_ne (y := 0) hl0
  have HE2 : Hid (wholeP 2 a = roundP 0 nb 0 (if upP 2 nb (halfP l d) od = true then n + 1 else n) false) := Lib.hid (by rw [HE1.out, if_neg hl0])
  clear HE1 hl0
  obtain ⟨hv, hhv⟩ : ∃ v, halfP l d = v := ⟨_, rfl⟩
  rw [hhv] at HE2
  have HHV := Lib.hid hhv
  clear hhv
  go_enter Try.func62, Try.ntmps62
  go_wp2_with fail
  refine (nan_at h NA).mono ?_
  rintro e' w' ⟨rfl, rfl⟩
  go_wp2_with fail
  refine (ropen_any a _ h).mono ?_
  rintro e' w1 ⟨rfl, hB1⟩
  rw [HNB.out, HSS.out, HEE.out]
  go_wp2_with fail
  refine (inf_at h IA).mono ?_
  rintro e' w' ⟨rfl, rfl⟩
  go_wp2
  go_quiet (fail)
  have hB2 := below_drewN (hB1.alloc hB1.size (.cells #[.bool nb, .int .i64 (-(d : Int)), .int .u64 (s : Int)] 46)) nq
  have hk := (Blk.new w1 46 #[.bool nb, .int .i64 (-(d : Int)), .int .u64 (s : Int)]).drewN nq
  generalize (w1.alloc (.cells #[.bool nb, .int .i64 (-(d : Int)), .int .u64 (s : Int)] 46)).drewN nq = W2 at *
  have k0 := hk.cell 0
  have k1 := hk.cell 1
  simp at k0 k1
  clear hk
  go_upto_if 46 with fail
  obtain ⟨sw, hsw⟩ : ∃ b, decide ((d : Int) ≤ 24) = b := ⟨_, rfl⟩
  simp only [hsw]
  have HSW := Lib.hid hsw
  clear hsw
  go_cut [8, 9] from 47 to 59 (fun hvv _ wx => hvv = .int .i64 hv ∧ wx = W2)
  case first =>
    by_cases h24 : d ≤ 24
    · obtain rfl : sw = true := HSW.out.symm.trans (decide_eq_true (by omega))
      have hhalf := half_cast (d := d) (by omega) HD1.out
      have hcnt : ((d : Int) - 1).toNat = d - 1 := by omega
      have hcc : ((d : Int) - 1) = ((d - 1 : Nat) : Int) := by omega
      obtain ⟨md, hmd⟩ : ∃ m, two (d - 1) = m := ⟨_, rfl⟩
      rw [hmd] at hhalf
      have HM := Lib.hid hmd
      clear hmd
      by_cases h1 : md < l
      · have h1' : (md : Int) < (l : Int) := by omega
        have HV1 : Hid (hv = 1) := Lib.hid (by rw [← HHV.out, halfP, HM.out, if_pos h1])
        go_wp2
        go_meet
        case rel => exact ⟨by rw [HV1.out], rfl⟩
      · have h1' : ¬ (md : Int) < (l : Int) := by omega
        by_cases h2 : l = md
        · have HV1 : Hid (hv = 0) := Lib.hid (by rw [← HHV.out, halfP, HM.out, if_neg h1, if_pos h2])
          have b2 : ((l : Int) == (md : Int)) = true := int_eq h2
          clear h2
          go_wp2
          go_meet
          case rel => exact ⟨by rw [HV1.out], rfl⟩
        · have HV1 : Hid (hv = -1) := Lib.hid (by rw [← HHV.out, halfP, HM.out, if_neg h1, if_neg h2])
          have b2 : ((l : Int) == (md : Int)) = false := int_ne h2
          go_wp2
          go_meet
          case rel => exact ⟨by rw [HV1.out], rfl⟩
    · obtain rfl : sw = false := HSW.out.symm.trans (decide_eq_false (by omega))
      have h5 := two_le (show 24 ≤ d - 1 by omega)
      rw [two_24] at h5
      have HV1 : Hid (hv = -1) := Lib.hid (by rw [← HHV.out, halfP, if_neg (by omega), if_neg (by omega)])
      go_wp2
      go_meet
      case rel => exact ⟨by rw [HV1.out], rfl⟩
  case rest =>
    obtain ⟨rfl, rfl⟩ := hcut
    obtain ⟨up, hup⟩ : ∃ u, upP 2 nb hv od = u := ⟨_, rfl⟩
    have HU := Lib.hid hup
    rw [hup] at HE2
    clear hup
    go_wp2_with fail
    refine (up2 HU).mono ?_
    rintro e' w' ⟨rfl, rfl⟩
    cases up
    · go_wp2_with fail
      refine (round_at (s := n) rfl (by omega) (by omega) (Lib.hid rfl)).mono ?_
      rintro e' w' ⟨rfl, rfl⟩
      go_wp2
      go_ret
      exact ⟨by rw [HE2.out]; try rfl, hB2⟩
    · go_wp2_with fail
      refine (round_at (s := n + 1) (by first | rfl | simp) (by omega) (by omega) (Lib.hid rfl)).mono ?_
      rintro e' w' ⟨rfl, rfl⟩
      go_wp2
      go_ret
      exact ⟨by rw [HE2.out]; try rfl, hB2⟩
theorem even_any (a : Nat) (w : World) (h : Hid (a < 4294967296)) :
    Calls Try.prog 31 #[.int .u32 (a : Int)] w (BR w (wholeP 2 a)) := by
  go_enter Try.func31, Try.ntmps31
  go_wp2_with fail
  refine (whole2_any a _ h).mono ?_
  rintro e w' ⟨rfl, hb⟩
  go_wp2
  go_ret
  exact ⟨rfl, hb⟩
end Go.Proofs.Ytanccobllehnaaa
