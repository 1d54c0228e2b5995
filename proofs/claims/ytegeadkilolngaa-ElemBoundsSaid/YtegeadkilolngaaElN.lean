/- Plain: Sin and Cos of the turned x. -/
import Derived.Test.YtegeadkilolngaaElM
namespace Go.Proofs.Ytegeadkilolngaa

theorem vC : val 1059256707 = 454307032293629486660313676652342344809447424 := by kernel_rfl
theorem vC1 : val 3217620992 = -1120612446226163812862169843200580165675515904 := by kernel_rfl
theorem vC2 : val 3120406528 = -345216461241292071183593539239528850522112 := by kernel_rfl
theorem vC3 : val 3013747049 = -53877102691624101036888191151416279040 := by kernel_rfl
theorem vS0 : val 3109031169 = -141592034951594525683114592736175523364864 := by kernel_rfl
theorem vS1 : val 1007192201 = 5946865696428031854223228550261210467008512 := by kernel_rfl
theorem vS2 : val 3190467243 = -118937311270104645514632825197610088779481088 := by kernel_rfl
theorem H0 : ((two 149 : Nat) : Int) = 713623846352979940529142984724747568191373312 := by rw [e149]; rfl
def vR (K X : Int) : Int := rH (K * -53877102691624101036888191151416279040 + rH (K * -345216461241292071183593539239528850522112 + rH (K * -1120612446226163812862169843200580165675515904 + X)))
theorem vR_neg (K X : Int) : vR (-K) (-X) = -vR K X := by
  unfold vR
  rw [show -K * -1120612446226163812862169843200580165675515904 + -X = -(K * -1120612446226163812862169843200580165675515904 + X) from by omega, rH_neg]
  generalize rH (K * -1120612446226163812862169843200580165675515904 + X) = R1
  rw [show -K * -345216461241292071183593539239528850522112 + -R1 = -(K * -345216461241292071183593539239528850522112 + R1) from by omega, rH_neg]
  generalize rH (K * -345216461241292071183593539239528850522112 + R1) = R2
  rw [show -K * -53877102691624101036888191151416279040 + -R2 = -(K * -53877102691624101036888191151416279040 + R2) from by omega, rH_neg]
theorem bd_val {r k : Nat} (h : Ok r) (hv : (val r).natAbs ≤ two k) (hk : k ≤ 276) : Bd r k := by
  rw [val_abs] at hv
  refine ⟨⟨h.1, ?_⟩, hv⟩
  refine amt_lt_iff.1 ?_
  have h2 := two_le (show k + 1 ≤ 23 + 254 by omega)
  rw [two_succ, two_add, two_23] at h2
  rw [amt_inf]
  have := two_pos k
  omega
theorem rv_under {N : Int} {m q : Nat} (hm : m < 2139095040) (hq : 0 < q) (h : (rv N q).natAbs < amt m) : N.natAbs < amt m * q := by
  rcases Nat.lt_or_ge N.natAbs (amt m * q) with h' | h'
  · exact h'
  · have := amt_mono (rm_low hm hq h')
    rw [← rv_abs] at this
    omega
theorem rv_under_pow {N : Int} {k q : Nat} (hk : 23 ≤ k) (hk2 : k ≤ 276) (hq : 0 < q) (h : (rv N q).natAbs < two k) : N.natAbs < two k * q := by
  rw [← amt_pow hk] at h ⊢
  exact rv_under (by omega) hq h
/-- the rest of the circle: no farther than 2^18 -/
theorem r_gen {X B K : Int} (hX : -784637716923335095479473677900958302012794430558004314112 ≤ X ∧ X ≤ 784637716923335095479473677900958302012794430558004314112) (h1 : 2 * (B * 713623846352979940529142984724747568191373312) ≤ 2 * (X * 454307032293629486660313676652342344809447424) + 33374797436264220037422214158899251790667258161822699530422525122222183215322508594108782608384) (h2 : 2 * (X * 454307032293629486660313676652342344809447424) ≤ 2 * (B * 713623846352979940529142984724747568191373312) + 33374797436264220037422214158899251790667258161822699530422525122222183215322508594108782608384)
    (h3 : 2 * (713623846352979940529142984724747568191373312 * K) ≤ 2 * B + 713623846352979940529142984724747568191373312) (h4 : 2 * B ≤ 2 * (713623846352979940529142984724747568191373312 * K) + 713623846352979940529142984724747568191373312) :
    (rH (K * -1120612446226163812862169843200580165675515904 + X)).natAbs ≤ two 179 ∧ (rH (K * -345216461241292071183593539239528850522112 + rH (K * -1120612446226163812862169843200580165675515904 + X))).natAbs ≤ two 168 ∧ (vR K X).natAbs ≤ two 168 := by
  unfold vR
  have t179 : two 179 = 766247770432944429179173513575154591809369561091801088 := by kernel_rfl
  have t168 : two 168 = 374144419156711147060143317175368453031918731001856 := by kernel_rfl
  have t155 : two 155 = 45671926166590716193865151022383844364247891968 := by kernel_rfl
  have t144 : two 144 = 22300745198530623141535718272648361505980416 := by kernel_rfl
  rw [t179, t168]
  obtain ⟨M1, e1⟩ : ∃ M1, K * -1120612446226163812862169843200580165675515904 + X = M1 := ⟨_, rfl⟩
  have k1 : -3138550867693340381917894711603833208051177722232017256448 ≤ K * 713623846352979940529142984724747568191373312 ∧ K * 713623846352979940529142984724747568191373312 ≤ 3138550867693340381917894711603833208051177722232017256448 := by omega
  have b1 : -383123885216472214589586756787577295904684780545900544 ≤ M1 ∧ M1 ≤ 383123885216472214589586756787577295904684780545900544 := by omega
  obtain ⟨a1, c1⟩ := rH_near (M := M1) (U := 155) (by decide) (by rw [t155]; omega)
  rw [t155] at a1 c1
  rw [e1]
  generalize rH M1 = R1 at *
  obtain ⟨M2, e2⟩ : ∃ M2, K * -345216461241292071183593539239528850522112 + R1 = M2 := ⟨_, rfl⟩
  have b2 : -187072209578355573530071658587684226515959365500928 ≤ M2 ∧ M2 ≤ 187072209578355573530071658587684226515959365500928 := by omega
  obtain ⟨a2, c2⟩ := rH_near (M := M2) (U := 144) (by decide) (by rw [t144]; omega)
  rw [t144] at a2 c2
  rw [e2]
  generalize rH M2 = R2 at *
  obtain ⟨M3, e3⟩ : ∃ M3, K * -53877102691624101036888191151416279040 + R2 = M3 := ⟨_, rfl⟩
  have b3 : -187072209578355573530071658587684226515959365500928 ≤ M3 ∧ M3 ≤ 187072209578355573530071658587684226515959365500928 := by omega
  obtain ⟨a3, c3⟩ := rH_near (M := M3) (U := 144) (by decide) (by rw [t144]; omega)
  rw [t144] at a3 c3
  rw [e3]
  generalize rH M3 = R3 at *
  omega
/-- where k is odd: no farther than 2 -/
theorem r_odd {X B K : Int} (hK : -16777216 ≤ K ∧ K ≤ 16777216)
    (h : (2 * (B * 713623846352979940529142984724747568191373312) ≤ 2 * (X * 454307032293629486660313676652342344809447424) + 509258994083621521567111422102344540262867098416484062659035112338595324940834176545849344 ∧ 2 * (X * 454307032293629486660313676652342344809447424) ≤ 2 * (B * 713623846352979940529142984724747568191373312) + 509258994083621521567111422102344540262867098416484062659035112338595324940834176545849344 ∧ 713623846352979940529142984724747568191373312 * K = B) ∨
      (2 * (B * 713623846352979940529142984724747568191373312) ≤ 2 * (X * 454307032293629486660313676652342344809447424) + 254629497041810760783555711051172270131433549208242031329517556169297662470417088272924672 ∧ 2 * (X * 454307032293629486660313676652342344809447424) ≤ 2 * (B * 713623846352979940529142984724747568191373312) + 254629497041810760783555711051172270131433549208242031329517556169297662470417088272924672 ∧ 2 * (713623846352979940529142984724747568191373312 * K) ≤ 2 * B + 713623846352979940529142984724747568191373312 ∧ 2 * B ≤ 2 * (713623846352979940529142984724747568191373312 * K) + 713623846352979940529142984724747568191373312 ∧ -8388609 ≤ K ∧ K ≤ 8388609)) :
    (vR K X).natAbs ≤ two 150 := by
  unfold vR
  have t150 : two 150 = 1427247692705959881058285969449495136382746624 := by kernel_rfl
  have t140 : two 140 = 1393796574908163946345982392040522594123776 := by kernel_rfl
  have t128 : two 128 = 340282366920938463463374607431768211456 := by kernel_rfl
  rw [t150]
  obtain ⟨M1, e1⟩ : ∃ M1, K * -1120612446226163812862169843200580165675515904 + X = M1 := ⟨_, rfl⟩
  -- the exact rest lies within 1.9
  have b0 : -1355885308070661887005371670977020379563609292 ≤ M1 - K * 345270338343983695284630427430680266801152 ∧ M1 - K * 345270338343983695284630427430680266801152 ≤ 1355885308070661887005371670977020379563609292 := by
    rcases h with ⟨h1, h2, h3⟩ | ⟨h1, h2, h3, h4, h5⟩ <;> omega
  clear h
  have b1 : -11692013098647223345629478661730264157247460343808 ≤ M1 ∧ M1 ≤ 11692013098647223345629478661730264157247460343808 := by omega
  obtain ⟨a1, c1⟩ := rH_near (M := M1) (U := 140) (by decide) (by rw [t140]; omega)
  rw [t140] at a1 c1
  rw [e1]
  clear e1
  generalize rH M1 = R1 at *
  obtain ⟨M2, e2⟩ : ∃ M2, K * -345216461241292071183593539239528850522112 + R1 = M2 := ⟨_, rfl⟩
  have b2 : -2854495385411919762116571938898990272765493248 ≤ M2 ∧ M2 ≤ 2854495385411919762116571938898990272765493248 := by omega
  obtain ⟨a2, c2⟩ := rH_near (M := M2) (U := 128) (by decide) (by rw [t128]; omega)
  rw [t128] at a2 c2
  rw [e2]
  generalize rH M2 = R2 at *
  obtain ⟨M3, e3⟩ : ∃ M3, K * -53877102691624101036888191151416279040 + R2 = M3 := ⟨_, rfl⟩
  have b3 : -1391566500388310884031828820213257757973177958 ≤ M3 ∧ M3 ≤ 1391566500388310884031828820213257757973177958 := by omega
  obtain ⟨a3, c3⟩ := rH_near (M := M3) (U := 128) (by decide) (by rw [t128]; omega)
  rw [t128] at a3 c3
  rw [e3]
  generalize rH M3 = R3 at *
  omega
theorem odd_small {k : Nat} {K : Int} (hv : val k = ((two 149 : Nat) : Int) * K) (ho : K % 2 = 1) : K.natAbs < 16777216 := by
  have ha : amt (absP k) = two 149 * K.natAbs := by rw [← val_abs, hv, Int.natAbs_mul]; rfl
  obtain ⟨U, s, e, hs⟩ := amt_form' (absP k)
  rw [ha] at e
  by_cases hU : U ≤ 149
  · have hdd : two 149 = two U * two (149 - U) := by rw [← two_add]; congr 1; omega
    rw [hdd, Nat.mul_assoc, Nat.mul_comm s] at e
    have e2 := Nat.eq_of_mul_eq_mul_left (two_pos U) e
    have h3 := Nat.mul_le_mul_right K.natAbs (two_pos (149 - U))
    rw [Nat.one_mul] at h3
    omega
  · exfalso
    have hdd : two U = two 149 * (2 * two (U - 150)) := by rw [← two_succ, ← two_add]; congr 1; omega
    rw [hdd, Nat.mul_left_comm] at e
    have e2 := Nat.eq_of_mul_eq_mul_left (two_pos 149) e
    rw [Nat.mul_left_comm s] at e2
    omega
theorem r2_odd {r : Nat} {K : Int} (hv : val r = K * 53877102691624101036888191151416279040) (ho : K % 2 = 1) : K.natAbs = 1 := by
  have t102 : two 102 = 5070602400912917605986812821504 := by kernel_rfl
  have ha : amt (absP r) = two 102 * (K.natAbs * 10625385) := by
    rw [← val_abs, hv, Int.natAbs_mul, t102, show ((53877102691624101036888191151416279040 : Int)).natAbs = 5070602400912917605986812821504 * 10625385 from rfl, Nat.mul_left_comm]
  obtain ⟨U, s, e, hs⟩ := amt_form' (absP r)
  rw [ha] at e
  by_cases hU : U ≤ 102
  · have hdd : two 102 = two U * two (102 - U) := by rw [← two_add]; congr 1; omega
    rw [hdd, Nat.mul_assoc, Nat.mul_comm s] at e
    have e2 := Nat.eq_of_mul_eq_mul_left (two_pos U) e
    have h3 := Nat.mul_le_mul_right (K.natAbs * 10625385) (two_pos (102 - U))
    rw [Nat.one_mul] at h3
    omega
  · exfalso
    have hdd : two U = two 102 * (2 * two (U - 103)) := by rw [← two_succ, ← two_add]; congr 1; omega
    rw [hdd, Nat.mul_left_comm s] at e
    have e2 : K.natAbs * 10625385 = s * (2 * two (U - 103)) := Nat.eq_of_mul_eq_mul_left (two_pos 102) e
    have e3 : s * (2 * two (U - 103)) = 2 * (s * two (U - 103)) := Nat.mul_left_comm _ _ _
    clear e ha hdd t102
    generalize s * two (U - 103) = y at e3
    generalize s * (2 * two (U - 103)) = z at e2 e3
    have hn : K.natAbs % 2 = 1 := by clear e2 e3 hv hU hs; omega
    clear hv hU hs ho
    generalize K.natAbs = n at *
    subst e3
    omega
theorem big_even {x : Nat} (h : two 148 ≤ (val x).natAbs) : ∃ j : Int, val x = 42535295865117307932921825928971026432 * j := by
  have t125 : two 125 = 42535295865117307932921825928971026432 := by kernel_rfl
  rw [val_abs] at h
  obtain ⟨U, s, e, hs⟩ := amt_form' (absP x)
  have hU : 125 ≤ U := by
    rcases Nat.lt_or_ge U 125 with h' | h'
    · rw [e] at h
      have h1 : s * two U < 16777216 * two U := Nat.mul_lt_mul_of_pos_right hs (two_pos U)
      have h2 := two_le (show U + 24 ≤ 148 by omega)
      rw [two_add, two_24] at h2
      omega
    · exact h'
  have hdd : two U = two 125 * two (U - 125) := by rw [← two_add, show 125 + (U - 125) = U from by omega]
  rw [hdd, Nat.mul_left_comm, t125] at e
  rw [val_on, e]
  cases oN x
  · exact ⟨((s * two (U - 125) : Nat) : Int), by rw [if_neg (by decide), Int.natCast_mul]; rfl⟩
  · exact ⟨-((s * two (U - 125) : Nat) : Int), by rw [if_pos rfl, Int.natCast_mul, Int.mul_neg]; rfl⟩
/-- where k is odd, the rest is not nought -/
theorem r_nonzero {X K : Int} (ho : K % 2 = 1) {r2 : Nat} (hr2 : val r2 = rH (K * -345216461241292071183593539239528850522112 + rH (K * -1120612446226163812862169843200580165675515904 + X)))
    (hX : K.natAbs = 1 → ∃ j, X = 42535295865117307932921825928971026432 * j) (hXb : K.natAbs = 1 → (K * -1120612446226163812862169843200580165675515904 + X).natAbs ≤ 570899077082383952423314387779798054553098649) : vR K X ≠ 0 := by
  have t125 : two 125 = 42535295865117307932921825928971026432 := by kernel_rfl
  unfold vR
  refine rH_nonzero fun h => ?_
  rw [← hr2] at h
  have h1 := r2_odd (r := r2) (K := K) (by omega) ho
  obtain ⟨j, hj⟩ := hX h1
  have hb := hXb h1
  obtain ⟨j1, hj1⟩ : ∃ j1, K * -1120612446226163812862169843200580165675515904 + X = 42535295865117307932921825928971026432 * j1 := by
    rcases (show K = 1 ∨ K = -1 by omega) with rfl | rfl
    · exact ⟨j - 26345472, by omega⟩
    · exact ⟨j + 26345472, by omega⟩
  rw [hj1] at hb hr2
  have x1 : rH (42535295865117307932921825928971026432 * j1) = 42535295865117307932921825928971026432 * j1 := rH_exact (k := j1.natAbs) (U := 125) (by omega) (by decide) (by rw [t125]; omega)
  rw [x1] at hr2
  obtain ⟨j2, hj2, hj3⟩ : ∃ j2, K * -345216461241292071183593539239528850522112 + 42535295865117307932921825928971026432 * j1 = 42535295865117307932921825928971026432 * j2 ∧ j2.natAbs < 16777216 := by
    rcases (show K = 1 ∨ K = -1 by omega) with rfl | rfl
    · exact ⟨j1 - 8116, by omega, by omega⟩
    · exact ⟨j1 + 8116, by omega, by omega⟩
  have x2 : rH (42535295865117307932921825928971026432 * j2) = 42535295865117307932921825928971026432 * j2 := rH_exact (k := j2.natAbs) (U := 125) hj3 (by decide) (by rw [t125]; omega)
  rw [hj2, x2] at hr2
  rw [hr2] at h
  rcases (show K = 1 ∨ K = -1 by omega) with rfl | rfl <;> omega
/-! the curve -/
def vZ (R : Int) : Int := rv (R * R) (two 149)
def vT (Z : Int) : Int := rv (Z * rv (Z * val 3109031169 + ((two 149 : Nat) : Int) * val 1007192201) (two 149) + ((two 149 : Nat) : Int) * val 3190467243) (two 149)
def vS (R : Int) : Int := rv (rv (R * vZ R) (two 149) * vT (vZ R) + ((two 149 : Nat) : Int) * R) (two 149)
theorem vZ_neg (R : Int) : vZ (-R) = vZ R := by unfold vZ; rw [Int.neg_mul_neg]
theorem vS_neg (R : Int) : vS (-R) = -vS R := by
  unfold vS
  rw [vZ_neg, Int.neg_mul, rv_neg (two_pos _), Int.neg_mul, Int.mul_neg, ← Int.neg_add, rv_neg (two_pos _)]
theorem rv_nn {N : Int} {q : Nat} (h : 0 ≤ N) : 0 ≤ rv N q := by
  unfold rv
  rw [if_neg (by omega)]
  omega
theorem vS_pos {R : Int} (h1 : 1 ≤ R) (h2 : R ≤ 1427247692705959881058285969449495136382746624) : vS R ≠ 0 := by
  have q0 := two_pos 149
  have t151 : two 151 = 2854495385411919762116571938898990272765493248 := by kernel_rfl
  have t0 : two 0 = 1 := rfl
  have z0 : 0 ≤ vZ R := rv_nn (Int.mul_nonneg (by omega) (by omega))
  have z1 : vZ R ≤ 2854495385411919762116571938898990272765493248 := by
    refine rv_top (m := (151 - 22) * 8388608) (by decide) q0 (by rw [amt_pow (by decide), t151]; rfl) ?_
    rw [H0]
    exact Int.le_trans (Int.mul_le_mul h2 h2 (by omega) (by decide)) (by decide)
  obtain ⟨Z, hZ⟩ : ∃ Z, vZ R = Z := ⟨_, rfl⟩
  have hT : -118937311270104645514632825197610088779481088 ≤ vT Z ∧ vT Z ≤ 0 := by
    rw [hZ] at z0 z1
    unfold vT
    rw [vS0, vS1, vS2, H0]
    have u0 : 0 ≤ rv (Z * -141592034951594525683114592736175523364864 + 713623846352979940529142984724747568191373312 * 5946865696428031854223228550261210467008512) (two 149) := rv_nn (by omega)
    have u1 : rv (Z * -141592034951594525683114592736175523364864 + 713623846352979940529142984724747568191373312 * 5946865696428031854223228550261210467008512) (two 149) ≤ 5946865696428031854223228550261210467008512 := by
      refine rv_top (m := 1007192201) (by decide) q0 (by rw [← vS1, val_abs]; rfl) ?_
      rw [H0]; omega
    generalize rv (Z * -141592034951594525683114592736175523364864 + 713623846352979940529142984724747568191373312 * 5946865696428031854223228550261210467008512) (two 149) = T0 at *
    have p0 : 0 ≤ Z * T0 := Int.mul_nonneg z0 u0
    have p1 : Z * T0 ≤ 2854495385411919762116571938898990272765493248 * 5946865696428031854223228550261210467008512 := Int.mul_le_mul z1 u1 u0 (by decide)
    constructor
    · refine rv_low (m := absP 3190467243) (by decide) q0 (by rw [← vS2, val_abs]) ?_
      rw [H0]; omega
    · refine rv_top (m := 0) (M := 0) (by decide) q0 rfl ?_
      rw [H0]; omega
  unfold vS
  rw [hZ]
  rw [hZ] at z0 z1
  have hlow : ((two 149 : Nat) : Int) ≤ rv (R * Z) (two 149) * vT Z + ((two 149 : Nat) : Int) * R := by
    rcases Int.lt_or_le R 8 with h8 | h8
    · have hz : Z = 0 := by
        have e : R * R ≤ 49 := Int.le_trans (Int.mul_le_mul (show R ≤ 7 by omega) (show R ≤ 7 by omega) (by omega) (by decide)) (by decide)
        have e' : 0 ≤ R * R := Int.mul_nonneg (by omega) (by omega)
        have := (rv_half (N := R * R) (q := two 149) (U := 0) (by decide) (by rw [t0, e149]; omega)).1
        unfold vZ at hZ
        rw [hZ, t0, e149] at this
        omega
      rw [hz, Int.mul_zero, rv_zero q0, Int.zero_mul, H0]
      omega
    · have g0 : 0 ≤ rv (R * Z) (two 149) := rv_nn (Int.mul_nonneg (by omega) z0)
      have g1 : rv (R * Z) (two 149) * 8388608 ≤ 33554436 * R + 8388608 := by
        have hN : R * Z ≤ R * 2854495385411919762116571938898990272765493248 := Int.mul_le_mul_of_nonneg_left z1 (by omega)
        have hN0 : 0 ≤ R * Z := Int.mul_nonneg (by omega) z0
        have hinf : amt 2139095040 = 242833611528216133864932738352939863330300854881517440156476551217363035650651062272 := by rw [amt_inf]; kernel_rfl
        have := rv_err (N := R * Z) (q := two 149) (E := (4 * R).toNat) q0 (by rw [hinf]; omega) (by rw [e149]; omega)
        generalize rv (R * Z) (two 149) = y at *
        rw [e149] at this
        generalize R * Z = n at *
        omega
      generalize rv (R * Z) (two 149) = y at *
      have g2 : y * -118937311270104645514632825197610088779481088 ≤ y * vT Z := Int.mul_le_mul_of_nonneg_left hT.1 g0
      generalize y * vT Z = v at *
      rw [H0]
      omega
  have := rv_low (m := 1) (M := 1) (N := rv (R * Z) (two 149) * vT Z + ((two 149 : Nat) : Int) * R) (by decide) q0 rfl (by rw [Int.one_mul]; exact hlow)
  omega
theorem vS_nonzero {R : Int} (h0 : R ≠ 0) (h : R.natAbs ≤ two 150) : vS R ≠ 0 := by
  have t150 : two 150 = 1427247692705959881058285969449495136382746624 := by kernel_rfl
  rw [t150] at h
  rcases Int.lt_or_le 0 R with h1 | h1
  · exact vS_pos (by omega) (by omega)
  · have := vS_pos (R := -R) (by omega) (by omega)
    rw [vS_neg] at this
    omega
theorem Bd.val_of {a i : Nat} (h : Bd a i) : Fn a := h.1
theorem cirA_is {r : Nat} (h : Bd r 168) : Bd (cirA r (cirZ r)) 276 ∧ val (cirA r (cirZ r)) = vS (val r) := by
  have z := bd_mul (l := 187) h h (by decide) (by decide)
  have zv := (mul_val h.1 h.1).2
  have c0 : Bd 3109031169 137 := bd_const (by decide) (by decide) (by decide) (by decide)
  have c1 : Bd 1007192201 149 := bd_const (by decide) (by decide) (by decide) (by decide)
  have c2 : Bd 3190467243 149 := bd_const (by decide) (by decide) (by decide) (by decide)
  have t0 := bd_fma (l := 176) z c0 c1 (by decide) (by decide) (by decide)
  have t0v := (fma_val z.1 c0.1 c1.1).2
  have t := bd_fma (l := 215) z t0 c2 (by decide) (by decide) (by decide)
  have tv := (fma_val z.1 t0.1 c2.1).2
  have rz := bd_mul (l := 206) h z (by decide) (by decide)
  have rzv := (mul_val h.1 z.1).2
  have s := bd_fma (l := 276) rz t h (by decide) (by decide) (by decide)
  have sv := (fma_val rz.1 t.1 h.1).2
  refine ⟨s, ?_⟩
  rw [show cirA r (cirZ r) = fmaP 0 (mulP 0 r (mulP 0 r r)) (fmaP 0 (mulP 0 r r) (fmaP 0 (mulP 0 r r) 3109031169 1007192201) 3190467243) r from rfl, sv, rzv, tv, t0v, zv]
  rfl
theorem cirC_is {z : Nat} (h : Bd z 187) : Fn (rowP z [3132492641, 1026206379, 3204448256, 1065353216]) := by
  have c0 : Bd 3132492641 140 := bd_const (by decide) (by decide) (by decide) (by decide)
  have c1 : Bd 1026206379 149 := bd_const (by decide) (by decide) (by decide) (by decide)
  have c2 : Bd 3204448256 149 := bd_const (by decide) (by decide) (by decide) (by decide)
  have c3 : Bd 1065353216 149 := bd_const (by decide) (by decide) (by decide) (by decide)
  have t0 := bd_fma (l := 179) h c0 c1 (by decide) (by decide) (by decide)
  have t1 := bd_fma (l := 218) h t0 c2 (by decide) (by decide) (by decide)
  have t2 := bd_fma (l := 257) h t1 c3 (by decide) (by decide) (by decide)
  exact t2.1
theorem cirZ_abs {r r' : Nat} (h : Fn r) (h' : Fn r') (e : absP r' = absP r) : cirZ r' = cirZ r := by
  unfold cirZ
  rw [mul_fin 0 h.ok.nan h.ok.nan h.inf h.inf, mul_fin 0 h'.ok.nan h'.ok.nan h'.inf h'.inf, e]
  congr 1
  unfold sgnX
  rw [bne_self_eq_false, bne_self_eq_false]
structure Circ (x : Nat) (K : Int) : Prop where
  kf : Fn (cirK x)
  kv : val (cirK x) = ((two 149 : Nat) : Int) * K
  n : circN x = K
  r : Bd (cirR x (cirK x)) 168
  rv : val (cirR x (cirK x)) = vR K (val x)
  odd : K % 2 = 1 → vR K (val x) ≠ 0 ∧ (vR K (val x)).natAbs ≤ two 150
theorem circ_is {x : Nat} (hx : Fn x) (hlt : absP x < 1400897536) : ∃ K : Int, Circ x K := by
  have q0 := two_pos 149
  have t189 : two 189 = 784637716923335095479473677900958302012794430558004314112 := by kernel_rfl
  have hXb : Bd x 189 := by
    refine ⟨hx, ?_⟩
    have := amt_mono (Nat.le_of_lt hlt)
    rwa [show 1400897536 = (189 - 22) * 8388608 from rfl, amt_pow (by decide)] at this
  have cC : Bd 1059256707 149 := bd_const (by decide) (by decide) (by decide) (by decide)
  have c1 : Bd 3217620992 150 := bd_const (by decide) (by decide) (by decide) (by decide)
  have c2 : Bd 3120406528 149 := bd_const (by decide) (by decide) (by decide) (by decide)
  have c3 : Bd 3013747049 149 := bd_const (by decide) (by decide) (by decide) (by decide)
  have bb := bd_mul (l := 189) hXb cC (by decide) (by decide)
  have bv := (mul_val hx cC.1).2
  rw [vC] at bv
  have hk := bd_even bb (by decide) (by decide)
  obtain ⟨K, k1, k2, k3, k4⟩ := even_int bb.1
  rw [show wholeP 2 (mulP 0 x 1059256707) = cirK x from rfl] at hk k1 k2 k3 k4
  have hX := hXb.abs
  rw [t189] at hX
  obtain ⟨X, eX⟩ : ∃ X, val x = X := ⟨_, rfl⟩
  obtain ⟨B, eB⟩ : ∃ B, val (mulP 0 x 1059256707) = B := ⟨_, rfl⟩
  rw [eX] at bv hX
  rw [eB] at bv k2 k3 k4
  have hN : (X * 454307032293629486660313676652342344809447424).natAbs ≤ 784637716923335095479473677900958302012794430558004314112 * 454307032293629486660313676652342344809447424 := by rw [Int.natAbs_mul]; exact Nat.mul_le_mul hX (Nat.le_refl _)
  have t165 : two 165 = 46768052394588893382517914646921056628989841375232 := by kernel_rfl
  obtain ⟨b1, b2⟩ := rv_half (N := X * 454307032293629486660313676652342344809447424) (q := two 149) (U := 165) (by decide) (by rw [e149, t165]; omega)
  rw [← bv, e149, t165] at b1 b2
  rw [k1, H0] at k2 k3 k4
  obtain ⟨m1, m2, m3⟩ := r_gen (X := X) (B := B) (K := K) (by omega) (by omega) (by omega) k2 k3
  obtain ⟨o1, v1⟩ := fma_step hk.1 c1.1 hx k1
  rw [vC1, eX] at v1
  have d1 := bd_val (k := 179) o1 (by rw [v1]; exact m1) (by decide)
  obtain ⟨o2, v2⟩ := fma_step hk.1 c2.1 d1.1 k1
  rw [vC2, v1] at v2
  have d2 := bd_val (k := 168) o2 (by rw [v2]; exact m2) (by decide)
  obtain ⟨o3, v3⟩ := fma_step hk.1 c3.1 d2.1 k1
  rw [vC3, v2] at v3
  have d3 := bd_val (k := 168) o3 (by rw [v3]; exact m3) (by decide)
  refine ⟨K, ⟨hk.1, k1, toInt_val hk.1 k1 (by omega), d3, by rw [eX]; exact v3, fun ho => ?_⟩⟩
  rw [eX]
  have hs := odd_small k1 ho
  clear m1 m2 m3 o1 o2 o3 v1 v3 d1 d3
  have t173 : two 173 = 11972621413014756705924586149611790497021399392059392 := by kernel_rfl
  have t172 : two 172 = 5986310706507378352962293074805895248510699696029696 := by kernel_rfl
  have t151 : two 151 = 2854495385411919762116571938898990272765493248 := by kernel_rfl
  have t127 : two 127 = 170141183460469231731687303715884105728 := by kernel_rfl
  have t148 : two 148 = 356811923176489970264571492362373784095686656 := by kernel_rfl
  have hkb : B.natAbs < 11972621413014756705924586149611790497021399392059392 := by omega
  have n1 := rv_under_pow (N := X * 454307032293629486660313676652342344809447424) (k := 173) (q := two 149) (by decide) (by decide) q0 (by rw [← bv, t173]; exact hkb)
  have w1 := rv_half (N := X * 454307032293629486660313676652342344809447424) (q := two 149) (U := 149) (by decide) (by rw [t173] at n1; rw [e149] at n1 ⊢; omega)
  rw [← bv, e149] at w1
  rw [e149] at k4
  refine ⟨?_, ?_⟩
  · refine r_nonzero ho (r2 := fmaP 0 (cirK x) 3120406528 (fmaP 0 (cirK x) 3217620992 x)) v2 (fun h1 => ?_) (fun h1 => ?_)
    · have n2 := rv_under_pow (N := X * 454307032293629486660313676652342344809447424) (k := 151) (q := two 149) (by decide) (by decide) q0 (by rw [← bv, t151]; omega)
      have w2 := rv_half (N := X * 454307032293629486660313676652342344809447424) (q := two 149) (U := 127) (by decide) (by rw [t151] at n2; rw [e149, t127] at *; omega)
      rw [← bv, e149, t127] at w2
      rw [← eX]
      refine big_even ?_
      rw [eX, t148]
      rcases (show K = 1 ∨ K = -1 by omega) with rfl | rfl <;> omega
    · have n2 := rv_under_pow (N := X * 454307032293629486660313676652342344809447424) (k := 151) (q := two 149) (by decide) (by decide) q0 (by rw [← bv, t151]; omega)
      have w2 := rv_half (N := X * 454307032293629486660313676652342344809447424) (q := two 149) (U := 127) (by decide) (by rw [t151] at n2; rw [e149, t127] at *; omega)
      rw [← bv, e149, t127] at w2
      rcases (show K = 1 ∨ K = -1 by omega) with rfl | rfl <;> omega
  · refine r_odd (B := B) (by omega) ?_
    by_cases hb : 8388608 * 713623846352979940529142984724747568191373312 ≤ B.natAbs
    · exact .inl ⟨by omega, by omega, k4 hb⟩
    · have n2 := rv_under_pow (N := X * 454307032293629486660313676652342344809447424) (k := 172) (q := two 149) (by decide) (by decide) q0 (by rw [← bv, t172]; omega)
      have w2 := rv_half (N := X * 454307032293629486660313676652342344809447424) (q := two 149) (U := 148) (by decide) (by rw [t172] at n2; rw [e149, t148] at *; omega)
      rw [← bv, e149, t148] at w2
      exact .inr ⟨by omega, by omega, k2, k3, by omega, by omega⟩
theorem circ_neg {x : Nat} {K K' : Int} (hx : Fn x) (h : Circ x K) (h' : Circ (negP x) K') (hlt : absP x < 1400897536) : K' = -K := by
  have cC : Fn 1059256707 := ⟨by decide, by decide⟩
  have hXb : Bd x 189 := by
    refine ⟨hx, ?_⟩
    have := amt_mono (Nat.le_of_lt hlt)
    rwa [show 1400897536 = (189 - 22) * 8388608 from rfl, amt_pow (by decide)] at this
  have cCb : Bd 1059256707 149 := bd_const (by decide) (by decide) (by decide) (by decide)
  have f1 := (bd_mul (l := 189) hXb cCb (by decide) (by decide)).1
  have f2 := (bd_mul (l := 189) hXb.neg cCb (by decide) (by decide)).1
  have e : val (mulP 0 (negP x) 1059256707) = -val (mulP 0 x 1059256707) := by
    rw [(mul_val hx.neg cC).2, (mul_val hx cC).2, val_neg' hx.1, Int.neg_mul, rv_neg (two_pos _)]
  have e2 : val (cirK (negP x)) = -val (cirK x) := even_neg f1 f2 e
  rw [h.kv, h'.kv, ← Int.mul_neg] at e2
  have q0 := two_pos 149
  exact Int.eq_of_mul_eq_mul_left (by omega) e2
/-! held, by its place -/
theorem place_neg {a : Nat} (h : a < 4294967296) : placeP (negP a) = -placeP a := by
  unfold placeP negP
  split <;> split <;> split <;> omega
theorem place_min (a b : Nat) : placeP (minP a b) = min (placeP a) (placeP b) := by
  unfold minP
  by_cases h : placeP a = placeP b
  · rw [if_pos h]
    split <;> omega
  · rw [if_neg h]
    split <;> omega
theorem place_max (a b : Nat) : placeP (maxP a b) = max (placeP a) (placeP b) := by
  unfold maxP
  by_cases h : placeP a = placeP b
  · rw [if_pos h]
    split <;> omega
  · rw [if_neg h]
    split <;> omega
theorem ok_min {a b : Nat} (ha : Ok a) (hb : Ok b) : Ok (minP a b) := by
  unfold minP
  split
  · split
    · exact ha
    · exact hb
  · split
    · exact hb
    · exact ha
theorem ok_max {a b : Nat} (ha : Ok a) (hb : Ok b) : Ok (maxP a b) := by
  unfold maxP
  split
  · split
    · exact hb
    · exact ha
  · split
    · exact hb
    · exact ha
theorem held_ok {y lo hi : Nat} (hy : Ok y) (hl : Ok lo) (hh : Ok hi) : Ok (heldF y lo hi) ∧ placeP (heldF y lo hi) = max (placeP lo) (min (placeP hi) (placeP y)) := by
  have e1 : minF hi y = minP hi y := by
    unfold minF
    rw [hy.nan, hh.nan, if_neg (by simp)]
  have e : heldF y lo hi = maxP lo (minP hi y) := by
    unfold heldF
    rw [e1]
    unfold maxF
    rw [hl.nan, (ok_min hh hy).nan, if_neg (by simp)]
  rw [e]
  exact ⟨ok_max hl (ok_min hh hy), by rw [place_max, place_min]⟩
theorem place_bits {a b : Nat} (ha : Ok a) (hb : Ok b) (h : placeP b = -placeP a) : b = negP a ∨ (absP a = 0 ∧ absP b = 0) := by
  have h1 := ha.1
  have h2 := hb.1
  unfold placeP at h
  unfold negP absP
  split at h <;> split at h <;> split <;> omega
theorem val_place {a b : Nat} (ha : Fn a) (hb : Fn b) (h : val b = -val a) : placeP b = -placeP a := by
  rcases bits_of ha hb h with rfl | ⟨h1, h2⟩
  · exact place_neg ha.1
  · unfold absP at h1 h2
    unfold placeP
    rw [h1, h2]
    split <;> split <;> rfl
theorem ok_m1 : Ok 3212836864 := ⟨by decide, by decide⟩
theorem ok_p1 : Ok 1065353216 := ⟨by decide, by decide⟩
theorem held_turn {y y' : Nat} (hy : Ok y) (hy' : Ok y') (h : placeP y' = -placeP y) :
    heldF y' 3212836864 1065353216 = negP (heldF y 3212836864 1065353216) ∨ (absP (heldF y 3212836864 1065353216) = 0 ∧ absP (heldF y' 3212836864 1065353216) = 0) := by
  obtain ⟨o1, p1⟩ := held_ok hy ok_m1 ok_p1
  obtain ⟨o2, p2⟩ := held_ok hy' ok_m1 ok_p1
  refine place_bits o1 o2 ?_
  rw [p1, p2, h, show placeP 3212836864 = -1065353216 from by decide, show placeP 1065353216 = 1065353216 from by decide]
  omega
theorem circ_turned {x : Nat} (hx : Fn x) (hlt : absP x < 1400897536) :
    (circP (negP x) 0 = negP (circP x 0) ∨ (absP (circP x 0) = 0 ∧ absP (circP (negP x) 0) = 0)) ∧ circP x 1 = circP (negP x) 1 := by
  obtain ⟨K, h⟩ := circ_is hx hlt
  obtain ⟨K', h'⟩ := circ_is hx.neg (by rw [abs_neg' hx.1]; exact hlt)
  have hK := circ_neg hx h h' hlt
  subst hK
  have er : val (cirR (negP x) (cirK (negP x))) = -val (cirR x (cirK x)) := by rw [h.rv, h'.rv, val_neg' hx.1, vR_neg]
  obtain ⟨s1, s2⟩ := cirA_is h.r
  obtain ⟨s3, s4⟩ := cirA_is h'.r
  rw [er, vS_neg, ← s2] at s4
  have eC : circC (negP x) = circC x := by
    unfold circC
    rw [cirZ_abs h.r.1 h'.r.1 (val_inj h.r.1 h'.r.1 er).1]
  have fC : Fn (circC x) := cirC_is (bd_mul (l := 187) h.r h.r (by decide) (by decide))
  rw [show cirA (cirR x (cirK x)) (cirZ (cirR x (cirK x))) = circS x from rfl] at s1 s2 s4
  rw [show cirA (cirR (negP x) (cirK (negP x))) (cirZ (cirR (negP x) (cirK (negP x)))) = circS (negP x) from rfl] at s3 s4
  have pS := val_place s1.1 s3.1 s4
  have pm : ∀ (y q : Nat), Fn y → circP y q = circM y q := fun y q hy => by
    unfold circP
    rw [if_neg (by rw [hy.ok.nan]; decide), if_neg (by rw [hy.inf]; decide)]
  rw [pm _ _ hx, pm _ _ hx.neg, pm _ _ hx, pm _ _ hx.neg]
  unfold circM circQ
  rw [h.n, h'.n]
  have hS : K % 2 = 1 → circS (negP x) = negP (circS x) := fun ho => by
    rcases bits_of s1.1 s3.1 s4 with e | ⟨e, -⟩
    · exact e
    · exfalso
      have := vS_nonzero (h.odd ho).1 (h.odd ho).2
      rw [← h.rv, ← s2] at this
      exact this (zero_val e)
  rcases (show K % 4 = 0 ∨ K % 4 = 1 ∨ K % 4 = 2 ∨ K % 4 = 3 by omega) with c | c | c | c
  · rw [show ((K % 4 + ((0 : Nat) : Int)) % 4).toNat = 0 from by omega, show ((-K % 4 + ((0 : Nat) : Int)) % 4).toNat = 0 from by omega,
      show ((K % 4 + ((1 : Nat) : Int)) % 4).toNat = 1 from by omega, show ((-K % 4 + ((1 : Nat) : Int)) % 4).toNat = 1 from by omega,
      circY_0, circY_0, circY_1, circY_1, eC]
    exact ⟨held_turn s1.ok s3.ok pS, rfl⟩
  · rw [show ((K % 4 + ((0 : Nat) : Int)) % 4).toNat = 1 from by omega, show ((-K % 4 + ((0 : Nat) : Int)) % 4).toNat = 3 from by omega,
      show ((K % 4 + ((1 : Nat) : Int)) % 4).toNat = 2 from by omega, show ((-K % 4 + ((1 : Nat) : Int)) % 4).toNat = 0 from by omega,
      circY_1, circY_3, circY_2, circY_0, eC, hS (by omega)]
    exact ⟨held_turn fC.ok fC.neg.ok (place_neg fC.1), rfl⟩
  · rw [show ((K % 4 + ((0 : Nat) : Int)) % 4).toNat = 2 from by omega, show ((-K % 4 + ((0 : Nat) : Int)) % 4).toNat = 2 from by omega,
      show ((K % 4 + ((1 : Nat) : Int)) % 4).toNat = 3 from by omega, show ((-K % 4 + ((1 : Nat) : Int)) % 4).toNat = 3 from by omega,
      circY_2, circY_2, circY_3, circY_3, eC]
    exact ⟨held_turn s1.ok.neg s3.ok.neg (by rw [place_neg s3.1.1, place_neg s1.1.1, pS]), rfl⟩
  · rw [show ((K % 4 + ((0 : Nat) : Int)) % 4).toNat = 3 from by omega, show ((-K % 4 + ((0 : Nat) : Int)) % 4).toNat = 1 from by omega,
      show ((K % 4 + ((1 : Nat) : Int)) % 4).toNat = 0 from by omega, show ((-K % 4 + ((1 : Nat) : Int)) % 4).toNat = 2 from by omega,
      circY_3, circY_1, circY_0, circY_2, eC, hS (by omega), neg_neg' s1.1.1]
    exact ⟨held_turn fC.neg.ok fC.ok (by rw [place_neg fC.1, Int.neg_neg]), rfl⟩
end Go.Proofs.Ytegeadkilolngaa
