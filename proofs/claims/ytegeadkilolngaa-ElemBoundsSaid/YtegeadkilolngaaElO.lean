/- Plain: the curves turned; what stays between two floats; answers that are no number are the one. -/
import Derived.Test.YtegeadkilolngaaElN
import Derived.Test.YtegeadkilolngaaElG
namespace Go.Proofs.Ytegeadkilolngaa

theorem signed_neg {t x : Nat} (ht : t < 4294967296) (hx : x < 4294967296) : signedF t (negP x) = negP (signedF t x) := by
  unfold signedF
  by_cases h : 2147483648 ≤ x
  · rw [if_pos h, if_neg (by unfold negP; split <;> omega), neg_neg' ht]
  · rw [if_neg h, if_pos (by unfold negP; split <;> omega)]
theorem tanh_neg {x : Nat} (hx : x < 4294967296) (hn : nanP x = false) : tanhP (negP x) = negP (tanhP x) := by
  unfold tanhP
  have ff : ¬ (false = true) := by decide
  rw [nan_neg' hx, hn, abs_neg' hx, if_neg ff, if_neg ff]
  by_cases h : lessP (absP x) 964689920 = true
  · rw [if_pos h, if_pos h]
  · rw [if_neg h, if_neg h]
    unfold tanhM
    rw [abs_neg' hx]
    refine signed_neg (lt_held ?_ (by decide) (by decide)) hx
    exact (okR.add 0 (by decide) (neg_lt (okR.div 0 _ _).1)).1
theorem erf_neg {x : Nat} (hx : x < 4294967296) (hn : nanP x = false) : erfP (negP x) = negP (erfP x) := by
  unfold erfP
  have ff : ¬ (false = true) := by decide
  rw [nan_neg' hx, hn, abs_neg' hx, if_neg ff, if_neg ff]
  by_cases h0 : absP x = 0
  · rw [if_pos h0, if_pos h0]
  · rw [if_neg h0, if_neg h0]
    by_cases h : lessP 1082130432 (absP x) = true
    · rw [if_pos h, if_pos h]
      exact signed_neg (by decide) hx
    · rw [if_neg h, if_neg h]
      unfold erfM
      rw [abs_neg' hx]
      exact signed_neg (lt_held (lt_fma (by decide)) (by decide) (by decide)) hx
/-! numbers stay numbers -/
theorem ok_rnd (neg : Bool) (p q : Nat) : Ok (rnd 0 neg p q) := by
  rw [rnd_near]
  exact ok_sum neg (rm_le p q)
theorem ok_add {a b : Nat} (ha : Fn a) (hb : Ok b) : Ok (addP 0 a b) ∧ Ok (addP 0 b a) := by
  cases h : infP b
  · exact ⟨(add_val ha (fn_of hb h)).1, (add_val (fn_of hb h) ha).1⟩
  · rw [add_inf 0 ha.ok.nan hb.nan (.inr ⟨ha.inf, h⟩), if_neg (by rw [ha.inf]; decide), add_inf 0 hb.nan ha.ok.nan (.inl ⟨h, .inl ha.inf⟩), if_pos h]
    exact ⟨hb, hb⟩
theorem ok_mul {a b : Nat} (ha : Fn a) (h0 : absP a ≠ 0) (hb : Ok b) : Ok (mulP 0 a b) := by
  cases h : infP b
  · exact (mul_val ha (fn_of hb h)).1
  · rw [mul_inf 0 ha.ok.nan hb.nan (.inr ⟨h, h0⟩)]
    exact ok_sum _ (by omega)
theorem ok_div {a b : Nat} (ha : Fn a) (h0 : absP a ≠ 0) (hb : Ok b) : Ok (divP 0 a b) := by
  cases h : infP b
  · by_cases hz : absP b = 0
    · rw [div_inf 0 ha.ok.nan hb.nan (.inr ⟨hz, h0⟩)]
      exact ok_sum _ (by omega)
    · exact (div_val ha (fn_of hb h) hz).1
  · rw [div_nil 0 ha.ok.nan hb.nan (.inl ⟨h, ha.inf⟩)]
    exact (ok_sgn _).1
theorem ok_absP {x : Nat} (h : Ok x) : Ok (absP x) := by
  obtain ⟨h1, h2⟩ := h
  refine ⟨lt_abs x, ?_⟩
  unfold absP at *
  omega
/-! between -/
def InR (r lo hi : Nat) : Prop := r = 2143289344 ∨ (lessP r lo = false ∧ lessP hi r = false ∧ nanP r = false)
theorem in_place {r lo hi : Nat} (h : Ok r) (h1 : placeP lo ≤ placeP r) (h2 : placeP r ≤ placeP hi) : InR r lo hi := by
  refine .inr ⟨?_, ?_, h.nan⟩
  · unfold lessP; rw [decide_eq_false (by omega), Bool.and_false]
  · unfold lessP; rw [decide_eq_false (by omega), Bool.and_false]
theorem held_in {y lo hi : Nat} (hy : y < 4294967296) (hl : Ok lo) (hh : Ok hi) (hlh : placeP lo ≤ placeP hi) : InR (heldF y lo hi) lo hi := by
  cases h : nanP y
  · obtain ⟨o, p⟩ := held_ok (ok_of hy h) hl hh
    exact in_place o (by omega) (by omega)
  · left
    have e : minF hi y = 2143289344 := by
      unfold minF
      rw [h, if_pos (.inr rfl)]
    unfold heldF
    rw [e]
    unfold maxF
    rw [if_pos (.inr (by decide))]
theorem pl0 : placeP 0 = 0 := by decide
theorem pl1 : placeP 1065353216 = 1065353216 := by decide
theorem plm : placeP 3212836864 = -1065353216 := by decide
theorem ok_0 : Ok 0 := ⟨by decide, by decide⟩
theorem circ_in {x : Nat} (q : Nat) (hx : x < 4294967296) : InR (circP x q) 3212836864 1065353216 := by
  unfold circP
  split
  · exact .inl rfl
  · split
    · exact .inl rfl
    · unfold circM
      refine held_in ?_ ok_m1 ok_p1 (by rw [pl1, plm]; decide)
      have lS : circS x < 4294967296 := lt_fma (lt_fma (lt_fma (lt_fma hx)))
      have lC : circC x < 4294967296 := lt_row (by intro d hd; simp at hd; omega)
      unfold circY
      split
      · exact lS
      · split
        · exact lC
        · split
          · exact neg_lt lS
          · exact neg_lt lC
theorem place_signed {t x : Nat} (ht : Ok t) (h0 : 0 ≤ placeP t) (h1 : placeP t ≤ 1065353216) : InR (signedF t x) 3212836864 1065353216 := by
  unfold signedF
  split
  · refine in_place ht.neg ?_ ?_
    · rw [place_neg ht.1, plm]; omega
    · rw [place_neg ht.1, pl1]; omega
  · refine in_place ht ?_ ?_
    · rw [plm]; omega
    · rw [pl1]; omega
theorem tanh_in {x : Nat} (hx : x < 4294967296) : InR (tanhP x) 3212836864 1065353216 := by
  unfold tanhP
  split
  · exact .inl rfl
  · rename_i hn
    have o := ok_of hx (by simpa using hn)
    split
    · rename_i hl
      refine in_place o ?_ ?_
      all_goals
        rw [less_iff (ok_absP o) ⟨by decide, by decide⟩, decide_eq_true_iff, show placeP 964689920 = 964689920 from by decide] at hl
        have h2 := o.2
        first | rw [plm] | rw [pl1]
        unfold placeP absP at *
        split at hl <;> split <;> omega
    · unfold tanhM
      have f1 : Fn 1065353216 := ⟨by decide, by decide⟩
      have f2 : Fn 1073741824 := ⟨by decide, by decide⟩
      have e := exp_ok (ok_mul f2 (by decide) (ok_absP o))
      have t := (ok_add f1 (ok_div f2 (by decide) (ok_add f1 e).2).neg).1
      obtain ⟨o1, p1⟩ := held_ok t ok_0 ok_p1
      rw [pl0, pl1] at p1
      exact place_signed o1 (by omega) (by omega)
theorem sigm_in (x : Nat) : InR (sigmP x) 0 1065353216 := by
  unfold sigmP
  split
  · exact .inl rfl
  · unfold sigmM
    exact held_in (okR.div 0 _ _).1 ok_0 ok_p1 (by rw [pl0, pl1]; decide)
theorem erfM_ok {a : Nat} (h : Bd a 151) : Ok (fmaP 0 (negP (mulP 0 (divP 0 1065353216 (fmaP 0 1051179525 a 1065353216)) (rowP (divP 0 1065353216 (fmaP 0 1051179525 a 1065353216)) [1065868322, 3216638179, 1068888291, 3197217166, 1048738054]))) (expP (negP (mulP 0 a a))) 1065353216) ∨ 2147483648 ≤ a := by
  by_cases ha : 2147483648 ≤ a
  · exact .inr ha
  left
  have q0 := two_pos 149
  have f1 : Bd 1065353216 149 := bd_const (by decide) (by decide) (by decide) (by decide)
  have c : Bd 1051179525 149 := bd_const (by decide) (by decide) (by decide) (by decide)
  have d := bd_fma (l := 152) c h f1 (by decide) (by decide) (by decide)
  have dv := (fma_val c.1 h.1 f1.1).2
  have v1 : val 1065353216 = ((two 149 : Nat) : Int) := by rw [val_on]; rfl
  have va : 0 ≤ val a := by rw [val_on, show oN a = false from decide_eq_false ha, if_neg (by decide)]; omega
  have vc : 0 ≤ val 1051179525 := by rw [val_on]; show (0 : Int) ≤ ((_ : Nat) : Int); omega
  have dge : ((two 149 : Nat) : Int) ≤ val (fmaP 0 1051179525 a 1065353216) := by
    rw [dv, v1]
    refine rv_low (m := 1065353216) (by decide) q0 (by rw [amt_one]; rfl) ?_
    have := Int.mul_nonneg vc va
    omega
  generalize fmaP 0 1051179525 a 1065353216 = D at *
  have dab : two 149 ≤ amt (absP D) := by rw [← val_abs]; omega
  have dnz : absP D ≠ 0 := fun e => by rw [e, amt_zero] at dab; omega
  have t : Bd (divP 0 1065353216 D) 149 := by
    refine bd_of (by decide) (by decide) (by omega) (div_val f1.1 d.1 dnz) ?_
    have e : (if sgnX 1065353216 D = true then -((two 149 * amt (absP 1065353216) : Nat) : Int) else ((two 149 * amt (absP 1065353216) : Nat) : Int)).natAbs = two 149 * amt (absP 1065353216) := by
      split <;> omega
    rw [e, abs_one, amt_one]
    exact Nat.mul_le_mul_left _ dab
  generalize divP 0 1065353216 D = T at *
  have p0 : Bd 1065868322 150 := bd_const (by decide) (by decide) (by decide) (by decide)
  have p1 := bd_fma (l := 151) t p0 (bd_const (c := 3216638179) (k := 150) (by decide) (by decide) (by decide) (by decide)) (by decide) (by decide) (by decide)
  have p2 := bd_fma (l := 152) t p1 (bd_const (c := 1068888291) (k := 150) (by decide) (by decide) (by decide) (by decide)) (by decide) (by decide) (by decide)
  have p3 := bd_fma (l := 153) t p2 (bd_const (c := 3197217166) (k := 150) (by decide) (by decide) (by decide) (by decide)) (by decide) (by decide) (by decide)
  have p4 := bd_fma (l := 154) t p3 (bd_const (c := 1048738054) (k := 150) (by decide) (by decide) (by decide) (by decide)) (by decide) (by decide) (by decide)
  have p := bd_mul (l := 154) t p4 (by decide) (by decide)
  have m := bd_mul (l := 153) h h (by decide) (by decide)
  exact (bd_fma (l := 276) p.neg (exp_bd m.neg) f1 (by decide) (by decide) (by decide)).ok
theorem erf_in {x : Nat} (hx : x < 4294967296) : InR (erfP x) 3212836864 1065353216 := by
  unfold erfP
  split
  · exact .inl rfl
  · rename_i hn
    have o := ok_of hx (by simpa using hn)
    split
    · rename_i h0
      refine in_place o ?_ ?_
      all_goals
        first | rw [plm] | rw [pl1]
        unfold absP at h0
        unfold placeP
        split <;> omega
    · split
      · exact place_signed ok_p1 (by rw [pl1]; decide) (by rw [pl1]; decide)
      · rename_i hl
        unfold erfM
        have ha : Bd (absP x) 151 := by
          refine bd_const (lt_abs x) ?_ (by decide) (by decide)
          rw [less_iff ⟨by decide, by decide⟩ (ok_absP o), decide_eq_true_iff, show placeP 1082130432 = 1082130432 from by decide] at hl
          unfold placeP absP at *
          split at hl <;> omega
        rcases erfM_ok ha with h | h
        · obtain ⟨o1, p1⟩ := held_ok h ok_0 ok_p1
          rw [pl0, pl1] at p1
          exact place_signed o1 (by omega) (by omega)
        · exfalso; unfold absP at h; omega
/-! the logarithm of a number above nought is a number -/
theorem bd_from {e : Int} (h : e.natAbs ≤ 1024) : Bd (fromP 0 e) 159 := by
  have hm : e.natAbs ≤ 16777216 := by omega
  obtain ⟨k1, k2⟩ := bitsI_is hm
  have hf : fromP 0 e = if e.natAbs = 0 then sgn (decide (e < 0)) else sgn (decide (e < 0)) + bitsI e.natAbs := by
    unfold fromP
    rw [from_law (by omega), rnd_int hm]
  by_cases h0 : e.natAbs = 0
  · rw [hf, if_pos h0]
    cases decide (e < 0)
    · exact bd_const (by decide) (by decide) (by decide) (by decide)
    · exact bd_const (by decide) (by decide) (by decide) (by decide)
  · rw [if_neg h0] at hf
    rw [hf]
    refine ⟨⟨(ok_sum _ (Nat.le_of_lt k1)).1, by rw [abs_sum _ (by omega)]; exact k1⟩, ?_⟩
    rw [abs_sum _ (by omega), k2, show 159 = 149 + 10 from rfl, two_add]
    exact Nat.mul_le_mul_left _ h
theorem logS_ok {m : Nat} {e : Int} (hm : Bd m 150) (h0 : ((two 148 : Nat) : Int) ≤ val m) (he : e.natAbs ≤ 1024) : Ok (logS m e) := by
  have q0 := two_pos 149
  have t149 : two 149 = 2 * two 148 := two_succ 148
  have t150 : two 150 = 2 * two 149 := two_succ 149
  have f1 : Bd 1065353216 149 := bd_const (by decide) (by decide) (by decide) (by decide)
  have f2 : Bd 1073741824 150 := bd_const (by decide) (by decide) (by decide) (by decide)
  have v1 : val 1065353216 = ((two 149 : Nat) : Int) := by rw [val_on]; rfl
  have v2 : val 1073741824 = ((two 150 : Nat) : Int) := by rw [val_on]; rfl
  have hm2 := hm.abs
  have fv := add_val hm.1 f1.neg.1
  rw [val_neg' f1.1.1, v1] at fv
  have f : Bd (addP 0 m (negP 1065353216)) 149 := bd_of (by decide) (by decide) (by decide) fv (by omega)
  have hf2 := f.abs
  have gv := add_val f.1 f2.1
  rw [v2] at gv
  have g : Bd (addP 0 (addP 0 m (negP 1065353216)) 1073741824) 152 := bd_add f f2 (by decide) (by decide) (by decide)
  have gge : ((two 149 : Nat) : Int) ≤ val (addP 0 (addP 0 m (negP 1065353216)) 1073741824) := by
    rw [gv.2]
    refine rv_low (m := 1065353216) (by decide) (by decide) (by rw [amt_one]; rfl) ?_
    omega
  unfold logS
  generalize addP 0 (addP 0 m (negP 1065353216)) 1073741824 = G at *
  generalize addP 0 m (negP 1065353216) = F at *
  have gab : two 149 ≤ amt (absP G) := by rw [← val_abs]; omega
  have gnz : absP G ≠ 0 := fun e => by rw [e, amt_zero] at gab; omega
  have s : Bd (divP 0 F G) 149 := by
    refine bd_of (by decide) (by decide) (by omega) (div_val f.1 g.1 gnz) ?_
    have e : (if sgnX F G = true then -((two 149 * amt (absP F) : Nat) : Int) else ((two 149 * amt (absP F) : Nat) : Int)).natAbs = two 149 * amt (absP F) := by
      split <;> omega
    rw [e]
    exact Nat.mul_le_mul_left _ (Nat.le_trans f.2 gab)
  generalize divP 0 F G = S at *
  have z := bd_mul (l := 149) s s (by decide) (by decide)
  have p0 : Bd 1046711865 149 := bd_const (by decide) (by decide) (by decide) (by decide)
  have p1 := bd_fma (l := 150) z p0 (bd_const (c := 1049774373) (k := 149) (by decide) (by decide) (by decide) (by decide)) (by decide) (by decide) (by decide)
  have p2 := bd_fma (l := 151) z p1 (bd_const (c := 1053609165) (k := 149) (by decide) (by decide) (by decide) (by decide)) (by decide) (by decide) (by decide)
  have p3 := bd_fma (l := 152) z p2 (bd_const (c := 1059760811) (k := 149) (by decide) (by decide) (by decide) (by decide)) (by decide) (by decide) (by decide)
  have p4 := bd_fma (l := 153) z p3 f2 (by decide) (by decide) (by decide)
  have l := bd_mul (l := 153) s p4 (by decide) (by decide)
  have k := bd_from he
  have u := bd_fma (l := 160) k (bd_const (c := 3109978243) (k := 149) (by decide) (by decide) (by decide) (by decide)) l (by decide) (by decide) (by decide)
  exact (bd_fma (l := 161) k (bd_const (c := 1060208640) (k := 149) (by decide) (by decide) (by decide) (by decide)) u (by decide) (by decide) (by decide)).ok
theorem log_ok {x : Nat} (h : Ok x) (hs : x < 2147483648) : Ok (logP x) := by
  unfold logP
  rw [if_neg (by rw [h.nan]; decide)]
  split
  · exact ⟨by decide, by decide⟩
  · rw [if_neg (by omega)]
    split
    · exact h
    · unfold logM
      have lX : lgX x < 4294967296 := by
        unfold lgX
        split
        · exact (ok_scale _ h).1
        · exact h.1
      have eM : lgM x = lgX x % 8388608 + 1056964608 := rfl
      have b : Bd (lgM x) 149 := bd_const (by omega) (by omega) (by decide) (by decide)
      have v : ((two 148 : Nat) : Int) ≤ val (lgM x) := by
        have h1 := amt_mono (show 1056964608 ≤ absP (lgM x) by unfold absP; omega)
        rw [show 1056964608 = (148 - 22) * 8388608 from rfl, amt_pow (by decide)] at h1
        rw [val_on, show oN (lgM x) = false from decide_eq_false (by omega), if_neg (by decide)]
        omega
      have e : (lgE x).natAbs ≤ 1000 := by
        unfold lgE
        split <;> omega
      split
      · have bv := (add_val b.1 b.1).2
        refine logS_ok (bd_add b b (by decide) (by decide) (by decide)) ?_ (by omega)
        rw [bv]
        refine rv_low (m := 1056964608) (by decide) (by decide) ?_ ?_
        · rw [show 1056964608 = (148 - 22) * 8388608 from rfl, amt_pow (by decide)]; rfl
        · omega
      · exact logS_ok (b.mono (by decide)) v (by omega)
/-! answers that are no number are the one -/
theorem okR.of {a : Nat} (h : Ok a) : okR a := ⟨h.1, .inr h.2⟩
theorem exp_okR {x : Nat} (h : x < 4294967296) : okR (expP x) := by
  cases hn : nanP x
  · exact okR.of (exp_ok (ok_of h hn))
  · unfold expP
    rw [if_pos hn]
    exact okR.nan
theorem log_okR {x : Nat} (h : x < 4294967296) : okR (logP x) := by
  unfold logP
  split
  · exact okR.nan
  · rename_i hn
    split
    · exact okR.of ⟨by decide, by decide⟩
    · split
      · exact okR.nan
      · split
        · exact okR.of (ok_of h (by simpa using hn))
        · unfold logM logS
          split
          · exact okR.fma 0 (lt_fma (okR.mul 0 _ _).1)
          · exact okR.fma 0 (lt_fma (okR.mul 0 _ _).1)
theorem softp_okR {x : Nat} (h : x < 4294967296) : okR (softpP x) := by
  unfold softpP
  split
  · exact okR.nan
  · unfold softpM
    exact okR.add 0 (lt_max h (by decide)) (lt_log _)
theorem pow_okR {a b : Nat} (hb : b < 4294967296) : okR (powP a b) := by
  unfold powP
  split
  · exact okR.of ok_p1
  · rename_i h1
    split
    · exact okR.nan
    · rename_i h2
      split
      · exact okR.of ok_p1
      · split
        · exact okR.nan
        · split
          · rename_i h3
            obtain ⟨-, -, h4, -⟩ := h3
            have na : nanP a = false := by
              cases h : nanP a
              · rfl
              · exact absurd (.inl h) h2
            have nb : nanP b = false := by
              cases h : nanP b
              · rfl
              · exact absurd (.inr h) h2
            have ob := ok_of hb nb
            have fb : Fn b := by
              refine ⟨hb, ?_⟩
              rw [less_iff (ok_absP ob) ⟨by decide, by decide⟩, decide_eq_true_iff, show placeP 1266679808 = 1266679808 from by decide] at h4
              unfold placeP absP at *
              split at h4 <;> omega
            have oa : Ok (absP a) := by
              refine ok_of (lt_abs a) ?_
              unfold nanP absP at *
              rw [Nat.mod_mod]
              exact na
            have := exp_ok (ok_mul fb (fun e => h1 (.inl e)) (log_ok oa (by unfold absP; omega)))
            exact okR.of this.neg
          · exact exp_okR (okR.mul 0 _ _).1
end Go.Proofs.Ytegeadkilolngaa
