import Derived.Test.YtegeadkilolngaaMRef
import Derived.Test.YtegeadkilolngaaMSoft
import Derived.Laws.Externs
import Derived.BigQuiet
import Derived.Deep.QuietTactic
import Derived.Deep.CutRange
import Derived.Deep.RegionHeld3
/- Plain: the root as the code has it is the root that the document searches for. -/
namespace Go.Proofs.Ytegeadkilolngaa

/-- the greatest bits whose amount's square is not above n -/
def IsRt (n m : Nat) : Prop := m < 2139095040 ∧ amt m * amt m ≤ n ∧ n < amt (m + 1) * amt (m + 1)
theorem IsRt.one {n m m' : Nat} (h : IsRt n m) (h' : IsRt n m') : m = m' := by
  obtain ⟨a1, a2, a3⟩ := h
  obtain ⟨b1, b2, b3⟩ := h'
  have key : ∀ {x y : Nat}, amt x * amt x ≤ n → n < amt (y + 1) * amt (y + 1) → ¬ y < x := fun h1 h2 hlt => by
    have h3 := amt_mono (show _ + 1 ≤ _ from hlt)
    have := Nat.mul_le_mul h3 h3
    omega
  by_cases e1 : m < m'
  · exact absurd e1 (key b2 a3)
  · by_cases e2 : m' < m
    · exact absurd e2 (key a2 b3)
    · omega
/-- rounded, from the bits below -/
def rootM (way : Int) (n m : Nat) : Nat :=
  if amt m * amt m = n ∨ way = 2 then m
  else if way = 1 then m + 1
  else if (amt m + amt (m + 1)) * (amt m + amt (m + 1)) < 4 * n ∨ ((amt m + amt (m + 1)) * (amt m + amt (m + 1)) = 4 * n ∧ m % 2 = 1) then m + 1 else m
theorem sq_lt {a b : Nat} (h : a < b) : a * a < b * b := Nat.mul_self_lt_mul_self h
theorem sq_le {a b : Nat} (h : a ≤ b) : a * a ≤ b * b := Nat.mul_self_le_mul_self h
theorem sq_eq {a b : Nat} (h : a * a = b * b) : a = b := by
  by_cases h1 : a < b
  · have := sq_lt h1; omega
  · by_cases h2 : b < a
    · have := sq_lt h2; omega
    · omega
theorem four_sq (a b : Nat) : 2 * a * b * (2 * a * b) = 4 * (a * b * (a * b)) := by
  rw [Nat.mul_assoc 2 a b, Nat.mul_mul_mul_comm]
theorem root_law {way : Int} {n r g m : Nat} (h1 : r * r ≤ n) (h2 : n < (r + 1) * (r + 1)) (hr : 33554432 ≤ r) (hr2 : r < 4294967296) (hg : g ≤ 200) (hm : IsRt (n * (two g * two g)) m) :
    roundP way false ((g : Int) - 149) r (decide (r * r ≠ n)) = rootM way (n * (two g * two g)) m := by
  have hn1 := blen_le (show 0 < r by omega)
  have hn2 := blen_lt r
  have hb1 : 25 < blen r := blen_ge (by show 33554432 ≤ r; exact hr)
  have hb2 : blen r ≤ 32 := by
    by_cases h : blen r ≤ 32
    · exact h
    · have h3 := two_le (show 32 ≤ blen r - 1 by omega)
      have h4 : two 32 = 4294967296 := rfl
      omega
  obtain ⟨d, hd⟩ : ∃ d : Nat, blen r = d + 24 := ⟨blen r - 24, by omega⟩
  have hdrop : max ((blen r : Int) - 24) (-149 - ((g : Int) - 149)) = (d : Int) := by omega
  unfold roundP
  rw [if_neg (by omega), if_neg (by omega), if_neg (by omega)]
  dsimp only
  rw [hdrop, if_neg (by omega), if_neg (by omega), show ((g : Int) - 149 + (d : Int) + 149).toNat = g + d from by omega, show ((d : Nat) : Int).toNat = d from rfl]
  have hD : two d = 2 * two (d - 1) := by rw [← two_succ]; congr 1; omega
  have hm0 : 8388608 ≤ r / two d := by
    rw [Nat.le_div_iff_mul_le (two_pos _), ← two_23, ← two_add]
    exact Nat.le_trans (two_le (by omega)) hn1
  have hm1 : r / two d < 16777216 := by
    rw [Nat.div_lt_iff_lt_mul (two_pos _), ← two_24, ← two_add]
    exact Nat.lt_of_lt_of_le hn2 (two_le (by omega))
  have hdm := Nat.div_add_mod r (two d)
  have hml := Nat.mod_lt r (two_pos d)
  have hT := two_pos g
  have hU : two (g + d) = two d * two g := by rw [two_add, Nat.mul_comm]
  have ea := amt_at (U := g + d) (m := r / two d) (.inr hm0) (by omega)
  have eb := amt_at (U := g + d) (m := r / two d + 1) (.inr (by omega)) (by omega)
  rw [← Nat.add_assoc] at eb
  rw [hU] at ea eb
  obtain ⟨D, hDD⟩ : ∃ D, two d = D := ⟨_, rfl⟩
  obtain ⟨H, hHH⟩ : ∃ H, two (d - 1) = H := ⟨_, rfl⟩
  have hH0 : 0 < H := by rw [← hHH]; exact two_pos _
  obtain ⟨T, hTT⟩ : ∃ T, two g = T := ⟨_, rfl⟩
  obtain ⟨q, hq⟩ : ∃ q, r / two d = q := ⟨_, rfl⟩
  obtain ⟨l, hl⟩ : ∃ l, r % two d = l := ⟨_, rfl⟩
  rw [hq] at hm0 hm1 ea eb
  rw [hTT] at hT ea eb hm ⊢
  rw [hDD] at ea eb
  rw [hDD, hHH] at hD
  rw [hq, hl, hDD] at hdm
  rw [hl, hDD] at hml
  rw [hq, hl, hHH]
  clear hDD hHH hTT hq hl hU hn1 hn2
  -- the bits
  obtain ⟨M, hM⟩ : ∃ M, (g + d) * 8388608 + q = M := ⟨_, rfl⟩
  have hM1 : M + 1 < 2139095040 := by omega
  rw [hM] at ea eb ⊢
  have fa : amt M = q * D * T := by rw [ea, Nat.mul_assoc]
  have fb : amt (M + 1) = (q + 1) * D * T := by rw [eb, Nat.mul_assoc]
  have ga : amt M * amt M = q * D * (q * D) * (T * T) := by rw [fa, Nat.mul_mul_mul_comm]
  have gb : amt (M + 1) * amt (M + 1) = (q + 1) * D * ((q + 1) * D) * (T * T) := by rw [fb, Nat.mul_mul_mul_comm]
  have gs : (amt M + amt (M + 1)) * (amt M + amt (M + 1)) = 4 * (((2 * q + 1) * H) * ((2 * q + 1) * H) * (T * T)) := by
    have e : amt M + amt (M + 1) = 2 * ((2 * q + 1) * H) * T := by
      rw [fa, fb, hD, ← Nat.add_mul, ← Nat.add_mul]
      congr 1
      rw [show q + (q + 1) = 2 * q + 1 from by omega, Nat.mul_left_comm]
    rw [e, four_sq, Nat.mul_mul_mul_comm]
  have hqD : q * D ≤ r := by rw [Nat.mul_comm]; omega
  have hqD1 : r + 1 ≤ (q + 1) * D := by rw [Nat.add_mul, Nat.one_mul, Nat.mul_comm]; omega
  have hTT0 : 0 < T * T := Nat.mul_pos hT hT
  have hmid : (2 * q + 1) * H = q * D + H := by rw [hD, Nat.add_mul, Nat.one_mul, Nat.mul_assoc, Nat.mul_left_comm]
  have hrq : r = q * D + l := by rw [Nat.mul_comm q D]; omega
  have hIs : IsRt (n * (T * T)) M := by
    refine ⟨by omega, ?_, ?_⟩
    · rw [ga]
      exact Nat.mul_le_mul_right _ (Nat.le_trans (sq_le hqD) h1)
    · rw [gb]
      exact Nat.mul_lt_mul_of_pos_right (Nat.lt_of_lt_of_le h2 (sq_le hqD1)) hTT0
  rw [hm.one hIs]
  have hex : amt M * amt M = n * (T * T) ↔ (l = 0 ∧ r * r = n) := by
    rw [ga]
    constructor
    · intro h
      have h3 := Nat.eq_of_mul_eq_mul_right hTT0 h
      have h4 := sq_le hqD
      have h5 : q * D * (q * D) = r * r := by omega
      have h6 := sq_eq h5
      omega
    · rintro ⟨h3, h4⟩
      rw [h3, Nat.add_zero] at hrq
      rw [← hrq, h4]
  have hab : (amt M + amt (M + 1)) * (amt M + amt (M + 1)) < 4 * (n * (T * T)) ↔ (H < l ∨ (l = H ∧ r * r ≠ n)) := by
    rw [gs, hmid]
    constructor
    · intro h
      have h3 : (q * D + H) * (q * D + H) * (T * T) < n * (T * T) := by omega
      have h4 := Nat.lt_of_mul_lt_mul_right h3
      by_cases h5 : H < l
      · exact .inl h5
      · by_cases h6 : l = H
        · right
          rw [← h6, ← hrq] at h4
          exact ⟨h6, by omega⟩
        · have := sq_le (show r + 1 ≤ q * D + H by omega)
          omega
    · intro h
      have h3 : (q * D + H) * (q * D + H) < n := by
        rcases h with h | ⟨h5, h6⟩
        · have := sq_lt (show q * D + H < r by omega)
          omega
        · rw [← h5, ← hrq]
          omega
      have := Nat.mul_lt_mul_of_pos_right h3 hTT0
      omega
  have hti : (amt M + amt (M + 1)) * (amt M + amt (M + 1)) = 4 * (n * (T * T)) ↔ (l = H ∧ r * r = n) := by
    rw [gs, hmid]
    constructor
    · intro h
      have h3 : (q * D + H) * (q * D + H) * (T * T) = n * (T * T) := by omega
      have h4 := Nat.eq_of_mul_eq_mul_right hTT0 h3
      by_cases h5 : H < l
      · have := sq_lt (show q * D + H < r by omega)
        omega
      · by_cases h6 : l = H
        · rw [← h6, ← hrq] at h4
          exact ⟨h6, h4⟩
        · have := sq_le (show r + 1 ≤ q * D + H by omega)
          omega
    · rintro ⟨h5, h6⟩
      rw [← h5, ← hrq, h6]
  have hsg : sgn false = 0 := rfl
  unfold fin
  rw [finU_lt (by split <;> omega), hsg, Nat.zero_add]
  unfold rootM
  have hu1 : way = 1 ∨ way = 2 → upB way false M (decide (l ≠ 0) || decide (r * r ≠ n)) (decide (H < l) || decide (l = H) && decide (r * r ≠ n)) (decide (l = H) && !decide (r * r ≠ n)) = ((decide (l ≠ 0) || decide (r * r ≠ n)) && outw way false) := by
    rintro (rfl | rfl) <;> rfl
  have hu0 : way ≠ 1 → way ≠ 2 → upB way false M (decide (l ≠ 0) || decide (r * r ≠ n)) (decide (H < l) || decide (l = H) && decide (r * r ≠ n)) (decide (l = H) && !decide (r * r ≠ n)) = (decide (H < l) || decide (l = H) && decide (r * r ≠ n) || decide (l = H) && !decide (r * r ≠ n) && M % 2 == 1) := by
    intro w1 w2
    unfold upB
    rw [if_neg (by simp [w1, w2])]
  generalize (amt M + amt (M + 1)) * (amt M + amt (M + 1)) = SS at *
  generalize amt M * amt M = AA at *
  generalize n * (T * T) = N at *
  by_cases w1 : way = 1
  · rw [hu1 (.inl w1)]
    subst w1
    have ho : outw 1 false = true := rfl
    rw [ho, Bool.and_true, if_pos (show (1 : Int) = 1 from rfl)]
    by_cases he : AA = N
    · obtain ⟨z1, z2⟩ := hex.1 he
      rw [if_neg (by simp [z1, z2]), if_pos (.inl he)]
    · rw [if_neg (show ¬ (AA = N ∨ (1 : Int) = 2) by simp [he]), if_pos]
      by_cases h0 : l = 0
      · have hz : ¬ r * r = n := fun h => he (hex.2 ⟨h0, h⟩)
        simp [hz]
      · simp [h0]
  · by_cases w2 : way = 2
    · rw [hu1 (.inr w2)]
      subst w2
      have ho : outw 2 false = false := rfl
      rw [ho, Bool.and_false, if_neg (by decide), if_pos (.inr rfl)]
    · rw [hu0 w1 w2, if_neg w1]
      by_cases he : AA = N
      · obtain ⟨z1, z2⟩ := hex.1 he
        have hlH : ¬ l = H := by omega
        have hHl : ¬ H < l := by omega
        rw [if_neg (by simp [hlH, hHl]), if_pos (.inl he)]
      · rw [if_neg (show ¬ (AA = N ∨ way = 2) by simp [he, w2])]
        by_cases hup : SS < 4 * N ∨ SS = 4 * N ∧ M % 2 = 1
        · rw [if_pos hup, if_pos]
          rcases hup with h | ⟨h, hp⟩
          · rcases hab.1 h with h | ⟨h, h'⟩
            · simp [h]
            · simp [h, h']
          · obtain ⟨h3, h4⟩ := hti.1 h
            simp [h3, h4, hp]
        · rw [if_neg hup, if_neg]
          intro hb
          apply hup
          simp only [Bool.or_eq_true, Bool.and_eq_true, decide_eq_true_eq, beq_iff_eq, Bool.not_eq_true', decide_eq_false_iff_not, Decidable.not_not] at hb
          rcases hb with (h | h) | h
          · exact .inl (hab.2 (.inl h))
          · exact .inl (hab.2 (.inr h))
          · exact .inr ⟨hti.2 h.1, h.2⟩
end Go.Proofs.Ytegeadkilolngaa

/- Contracts of round.open and round.sign; what an open finite float is. -/
namespace Go.Proofs.Ytegeadkilolngaa
open Go.RowKit

/-- a finite float taken apart -/
def oN (a : Nat) : Bool := decide (2147483648 ≤ a)
def oE (a : Nat) : Int := if a / 8388608 % 256 = 0 then -149 else ((a / 8388608 % 256 : Nat) : Int) - 150
def oS (a : Nat) : Nat := if a / 8388608 % 256 = 0 then a % 8388608 else a % 8388608 + 8388608
theorem ofin_amt {a : Nat} : oS a * two (oE a + 149).toNat = amt (absP a) := by
  unfold oS oE amt absP
  have e1 : a % 2147483648 / 8388608 = a / 8388608 % 256 := by omega
  have e2 : a % 2147483648 % 8388608 = a % 8388608 := by omega
  rw [e1, e2]
  split
  · show a % 8388608 * two 0 = _
    rw [show two 0 = 1 from rfl]
    omega
  · rw [Nat.add_comm, show (((a / 8388608 % 256 : Nat) : Int) - 150 + 149).toNat = a / 8388608 % 256 - 1 from by omega]
theorem o_bounds (a : Nat) : oS a < 16777216 ∧ -149 ≤ oE a ∧ oE a ≤ 105 := by
  unfold oS oE
  split <;> omega
theorem o_nil {a : Nat} : oS a = 0 ↔ absP a = 0 := by
  unfold oS absP
  split <;> omega
theorem o_fin {a : Nat} (h : absP a < 2139095040) : oE a ≤ 104 := by
  unfold oE absP at *
  split <;> omega
theorem o_norm {a : Nat} (h : -149 < oE a) : 8388608 ≤ oS a := by
  unfold oE at h
  unfold oS
  split at h
  · omega
  · rename_i h0
    rw [if_neg h0]
    omega
theorem ropen_out (w : World) (tmps : Array Value) (g : Nat) (c0 c1 c2 : Value) (h2 : tmps.getD 2 undef = .pointer (some ⟨g, 0, none⟩)) (hk : Blk w g 50 #[c0, c1, c2]) :
    (results Try.f66 tmps).run Try.prog w = .ok (.agg #[c0, c1, c2]) w := by
  have k0 := hk.cell 0
  have k1 := hk.cell 1
  have k2 := hk.cell 2
  simp at k0 k1 k2
  rw [Array.getD_eq_getD_getElem?] at h2
  simp [results, Try.results66, go_sem, h2, k0, k1, k2]
  try rfl
def numA (n : Bool) (e : Int) (s : Nat) : Value := .agg #[.bool n, .int .i64 e, .int .u64 (s : Int)]
set_option maxRecDepth 100000 in
set_option maxHeartbeats 800000 in
theorem ropen_any (a : Nat) (w : World) (h : Hid (a < 4294967296)) :
    Calls Try.prog 66 #[.int .u32 (a : Int)] w fun e w' => e = .returned (.agg #[.bool (oN a), .int .i64 (oE a), .int .u64 (oS a : Int)]) ∧ Below w.heap.size w w' := by
  have hh := h.out
  have h1 : bits .and .u32 ((a : Int) / 8388608) 255 = ((a / 8388608 % 256 : Nat) : Int) := and_u32 (x := a / 8388608) 8 (by decide) (by omega)
  have h2 : bits .and .u32 (a : Int) 8388607 = ((a % 8388608 : Nat) : Int) := and_u32 23 (by decide) hh
  have h3 : ((a : Int) / 2147483648 == 1) = oN a := by
    unfold oN
    by_cases hh : 2147483648 ≤ a
    · rw [decide_eq_true hh, beq_iff_eq]; omega
    · rw [decide_eq_false hh, beq_eq_false_iff_ne]; omega
  have HO : Hid (oE a = if a / 8388608 % 256 = 0 then -149 else ((a / 8388608 % 256 : Nat) : Int) - 150) := Lib.hid rfl
  have HS : Hid (oS a = if a / 8388608 % 256 = 0 then a % 8388608 else a % 8388608 + 8388608) := Lib.hid rfl
  have hE : a / 8388608 % 256 < 256 := by omega
  have hF : a % 8388608 < 8388608 := by omega
  generalize a / 8388608 % 256 = E at *
  generalize a % 8388608 = F at *
  generalize oN a = nb at *
  generalize oE a = ee at *
  generalize oS a = ss at *
  clear hh
  by_cases e0 : E = 0
  · have HO2 : Hid (ee = -149) := Lib.hid (by rw [HO.out, if_pos e0])
    have HS2 : Hid (ss = F) := Lib.hid (by rw [HS.out, if_pos e0])
    clear HO HS
    subst e0
    go_enter Try.func66, Try.ntmps66
    go_wp2
    refine bodyPost_ret (ropen_out _ _ w.heap.size _ _ _ rfl (Blk.new w _ _)) rfl ?_
    exact ⟨by rw [HO2.out, HS2.out], (Below.refl w.heap.size w).alloc (Nat.le_refl _) _⟩
  · have HO2 : Hid (ee = (E : Int) - 150) := Lib.hid (by rw [HO.out, if_neg e0])
    have HS2 : Hid (ss = F + 8388608) := Lib.hid (by rw [HS.out, if_neg e0])
    clear HO HS
    have c1 : ((E : Int) == 0) = false := by rw [beq_eq_false_iff_ne]; omega
    have c2 : bits .or .u64 (F : Int) 8388608 = ((F + 8388608 : Nat) : Int) := by
      have e : 8388608 ||| F = 8388608 + F := by
        have := Nat.two_pow_add_eq_or_of_lt (i := 23) (b := F) (by omega) 1
        simpa using this.symm
      have hc := bits_or_u64_nat F 8388608 (by omega) (by decide)
      rw [Nat.or_comm, e, Nat.add_comm] at hc
      exact hc
    go_enter Try.func66, Try.ntmps66
    go_wp2
    refine bodyPost_ret (ropen_out _ _ w.heap.size _ _ _ rfl (Blk.new w _ _)) rfl ?_
    exact ⟨by rw [HO2.out, HS2.out]; try rfl, (Below.refl w.heap.size w).alloc (Nat.le_refl _) _⟩
theorem rsign_any (neg : Bool) (w : World) : Calls Try.prog 78 #[.bool neg] w fun e w' => e = .returned (.int .u32 (sgn neg : Int)) ∧ w' = w := by
  cases neg
  all_goals
    go_enter Try.func78, Try.ntmps78
    go_wp2
    go_ret
    exact ⟨rfl, rfl⟩
end Go.Proofs.Ytegeadkilolngaa

/- The contract of round.moved. -/
namespace Go.Proofs.Ytegeadkilolngaa
open Go.RowKit

/-- a number shifted, and whether something was lost -/
def mvV (s : Nat) (k : Int) : Nat := if 0 ≤ k then s * two k.toNat else s / two (-k).toNat
def mvL (s : Nat) (k : Int) : Bool := if 0 ≤ k then false else decide (s % two (-k).toNat ≠ 0)
/-- two words -/
def hiW (v : Nat) : Nat := v / 18446744073709551616
def loW (v : Nat) : Nat := v % 18446744073709551616
def wideV (v : Nat) : Value := .agg #[.int .u64 (hiW v : Int), .int .u64 (loW v : Int)]
theorem moved_out (w : World) (tmps : Array Value) (g : Nat) (c0 c1 c2 : Value) (h4 : tmps.getD 4 undef = .pointer (some ⟨g, 0, none⟩)) (h5 : tmps.getD 5 undef = c2) (hk : Blk w g 75 #[c0, c1]) :
    (results Try.f91 tmps).run Try.prog w = .ok (.tuple #[.agg #[c0, c1], c2]) w := by
  have k0 := hk.cell 0
  have k1 := hk.cell 1
  simp at k0 k1
  rw [Array.getD_eq_getD_getElem?] at h4 h5
  simp [results, Try.results91, go_sem, h4, h5, k0, k1]
  try rfl
theorem mv_small {s d : Nat} (h : 64 ≤ d) (hs : s < 18446744073709551616) : s / two d = 0 ∧ s % two d = s := by
  have h1 := two_le h
  rw [two_64] at h1
  exact ⟨Nat.div_eq_of_lt (by omega), Nat.mod_eq_of_lt (by omega)⟩
set_option maxRecDepth 100000 in
set_option maxHeartbeats 1600000 in
theorem moved_any (s : Nat) (k : Int) (w : World) (hs : Hid (s < 18446744073709551616)) (hk : -1000000 ≤ k ∧ k ≤ 127) (hv : Hid (0 ≤ k → s * two k.toNat < 340282366920938463463374607431768211456)) :
    Calls Try.prog 91 #[.int .u64 (s : Int), .int .i64 k] w fun e w' => e = .returned (.tuple #[.agg #[.int .u64 (hiW (mvV s k) : Int), .int .u64 (loW (mvV s k) : Int)], .bool (mvL s k)]) ∧ Below w.heap.size w w' := by
  by_cases c1 : 64 ≤ k
  · obtain ⟨n, hn⟩ : ∃ n : Nat, (k - 64).toNat = n := ⟨_, rfl⟩
    have hkn : k.toNat = n + 64 := by omega
    have hlt : s * two n < 18446744073709551616 := by
      have := hv.out (by omega)
      rw [hkn, two_add, ← Nat.mul_assoc, two_64] at this
      generalize s * two n = x at *
      omega
    have HV : Hid (mvV s k = s * two n * 18446744073709551616) := Lib.hid (by unfold mvV; rw [if_pos (by omega), hkn, two_add, ← Nat.mul_assoc, two_64])
    have HL : Hid (mvL s k = false) := Lib.hid (by unfold mvL; rw [if_pos (by omega)])
    have HW : Hid (hiW (s * two n * 18446744073709551616) = s * two n ∧ loW (s * two n * 18446744073709551616) = 0) := Lib.hid (by unfold hiW loW; exact ⟨Nat.mul_div_cancel _ (by decide), Nat.mul_mod_left _ _⟩)
    have hw : IntKind.u64.wrap ((s : Int) * 2 ^ n) = ((s * two n : Nat) : Int) := by rw [two_cast, ← Int.natCast_mul, wrap64_nat hlt]
    have hm : min n 64 = n := by omega
    clear hkn hlt
    go_enter Try.func91, Try.ntmps91
    go_wp2
    refine bodyPost_ret (moved_out _ _ w.heap.size _ _ (.bool false) rfl rfl (Blk.new w _ _)) rfl ?_
    exact ⟨by rw [HV.out, HL.out, HW.out.1, HW.out.2]; try rfl, (Below.refl w.heap.size w).alloc (Nat.le_refl _) _⟩
  by_cases c2 : 0 < k
  · obtain ⟨n, hn⟩ : ∃ n : Nat, k = (n : Int) := ⟨k.toNat, by omega⟩
    subst hn
    have hn1 : n < 64 := by omega
    have h64 : ((64 : Int) - (n : Int)).toNat = 64 - n := by omega
    have HV : Hid (mvV s n = s * two n) := Lib.hid (by unfold mvV; rw [if_pos (by omega)]; rfl)
    have HL : Hid (mvL s n = false) := Lib.hid (by unfold mvL; rw [if_pos (by omega)])
    have hw : IntKind.u64.wrap ((s : Int) * 2 ^ n) = ((loW (s * two n) : Nat) : Int) := by rw [two_cast, ← Int.natCast_mul, IntKind.wrap_u64]; unfold loW; omega
    have hq : (s : Int) / 2 ^ (64 - n) = ((hiW (s * two n) : Nat) : Int) := by
      rw [quo_cast]
      unfold hiW
      have e : (18446744073709551616 : Nat) = two (64 - n) * two n := by rw [← two_add, show 64 - n + n = 64 from by omega]; rfl
      rw [e, Nat.mul_div_mul_right _ _ (two_pos n)]
    have hlo : loW (s * two n) < 18446744073709551616 := by unfold loW; omega
    have hhi : hiW (s * two n) < 18446744073709551616 := by
      have h1 := Nat.div_le_self s (two (64 - n))
      rw [quo_cast] at hq
      have h2 := hs.out
      omega
    obtain ⟨lo, hlo'⟩ : ∃ x, loW (s * two n) = x := ⟨_, rfl⟩
    obtain ⟨hi, hhi'⟩ : ∃ x, hiW (s * two n) = x := ⟨_, rfl⟩
    rw [hlo'] at hw hlo
    rw [hhi'] at hq hhi
    have HLO := Lib.hid hlo'
    have HHI := Lib.hid hhi'
    clear hlo' hhi'
    go_enter Try.func91, Try.ntmps91
    go_wp2
    go_region
    go_wp2
    refine bodyPost_ret (moved_out _ _ w.heap.size _ _ (.bool false) rfl rfl (Blk.new w _ _).drew) rfl ?_
    exact ⟨by rw [HV.out, HL.out, HLO.out, HHI.out], below_drewN ((Below.refl w.heap.size w).alloc (Nat.le_refl _) _) 1⟩
  by_cases c3 : k = 0
  · subst c3
    have HV : Hid (mvV s 0 = s) := Lib.hid (by unfold mvV; rw [if_pos (by omega)]; exact Nat.mul_one s)
    have HL : Hid (mvL s 0 = false) := Lib.hid (by unfold mvL; rw [if_pos (by omega)])
    have HW : Hid (hiW s = 0 ∧ loW s = s) := Lib.hid (by have := hs.out; unfold hiW loW; omega)
    go_enter Try.func91, Try.ntmps91
    go_wp2
    refine bodyPost_ret (moved_out _ _ w.heap.size _ _ (.bool false) rfl rfl (Blk.new w _ _)) rfl ?_
    exact ⟨by rw [HV.out, HL.out, HW.out.1, HW.out.2]; try rfl, (Below.refl w.heap.size w).alloc (Nat.le_refl _) _⟩
  obtain ⟨d, hd⟩ : ∃ d : Nat, k = -(d : Int) := ⟨(-k).toNat, by omega⟩
  subst hd
  have hd1 : 1 ≤ d := by omega
  have b3 : (-(d : Int) == 0) = false := by rw [beq_eq_false_iff_ne]; omega
  have HV : Hid (mvV s (-(d : Int)) = s / two d) := Lib.hid (by unfold mvV; rw [if_neg (by omega)]; congr 2; omega)
  have HL : Hid (mvL s (-(d : Int)) = decide (s % two d ≠ 0)) := Lib.hid (by unfold mvL; rw [if_neg (by omega)]; congr 4; omega)
  by_cases c4 : 64 ≤ d
  · have HZ := Lib.hid (mv_small c4 hs.out)
    have hne : ((s : Int) != 0) = decide (s ≠ 0) := by
      by_cases h0 : s = 0
      · subst h0; rfl
      · rw [decide_eq_true h0, bne_iff_ne]; omega
    obtain ⟨lb, hlb⟩ : ∃ x, decide (s ≠ 0) = x := ⟨_, rfl⟩
    rw [hlb] at hne
    have HB := Lib.hid hlb
    clear hlb
    go_enter Try.func91, Try.ntmps91
    go_wp2
    refine bodyPost_ret (moved_out _ _ w.heap.size _ _ (.bool lb) rfl rfl (Blk.new w _ _)) rfl ?_
    exact ⟨by rw [HV.out, HL.out, HZ.out.1, HZ.out.2, HB.out]; rfl, (Below.refl w.heap.size w).alloc (Nat.le_refl _) _⟩
  · have hq := quo_cast s d
    have hm : min d 64 = d := by omega
    obtain ⟨t, ht⟩ : ∃ t, s / two d = t := ⟨_, rfl⟩
    have hdm := Nat.div_add_mod s (two d)
    rw [ht, Nat.mul_comm] at hdm
    have hts := hs.out
    have hw : IntKind.u64.wrap ((t : Int) * 2 ^ d) = ((t * two d : Nat) : Int) := by rw [two_cast, ← Int.natCast_mul, wrap64_nat (by omega)]
    have hne : (((t * two d : Nat) : Int) != (s : Int)) = decide (s % two d ≠ 0) := by
      by_cases h0 : s % two d = 0
      · rw [decide_eq_false (by simpa using h0)]
        have : t * two d = s := by omega
        rw [this]
        simp
      · rw [decide_eq_true h0, bne_iff_ne]; omega
    have htl : t < 18446744073709551616 := by
      have := Nat.div_le_self s (two d)
      omega
    rw [ht] at hq
    have HT := Lib.hid ht
    have HH : Hid (hiW t = 0 ∧ loW t = t) := Lib.hid (by unfold hiW loW; omega)
    clear ht hdm hts
    generalize decide (s % two d ≠ 0) = lb at *
    generalize t * two d = td at *
    go_enter Try.func91, Try.ntmps91
    go_wp2
    go_region
    go_wp2
    refine bodyPost_ret (moved_out _ _ w.heap.size _ _ (.bool lb) rfl rfl (Blk.new w _ _).drew) rfl ?_
    exact ⟨by rw [HV.out, HL.out, HT.out, HH.out.1, HH.out.2]; rfl, below_drewN ((Below.refl w.heap.size w).alloc (Nat.le_refl _) _) 1⟩
end Go.Proofs.Ytegeadkilolngaa

/- The contracts of round's numbers of two words: plus, minus, less. -/
namespace Go.Proofs.Ytegeadkilolngaa
open Go.RowKit

theorem add64 (x y c : Int) (hx : 0 ≤ x) (hy : 0 ≤ y) (hc0 : 0 ≤ c) (hc : c ≤ 1) (w : World) : (callFunc 102 #[.int .u64 x, .int .u64 y, .int .u64 c]).run Try.prog w =
    .ok (.value (.tuple #[.int .u64 ((x + y + c) % 18446744073709551616), .int .u64 ((x + y + c) / 18446744073709551616)])) w := by
  rw [run_callFunc_extern Try.func102 (by kernel_rfl) (by kernel_rfl) (by kernel_rfl) (e := add64Entry) (by kernel_rfl), run_add64 x y c hx hy hc0 hc]
  rfl
def sub64E : Array Value → Sem Value := fun args => do
  let (x, y, b) ← Extern.MathBitsCarry.three "Sub64" args
  pure (Extern.MathBitsCarry.pair ((x + Extern.MathBitsCarry.m64 - y - b) % Extern.MathBitsCarry.m64) (if x < y + b then 1 else 0))
theorem run_sub64 (x y b : Nat) (hb : b ≤ 1) (w : World) :
    (sub64E #[.int .u64 x, .int .u64 y, .int .u64 b]).run Try.prog w =
      .ok (.tuple #[.int .u64 (((x + 18446744073709551616 - y - b) % 18446744073709551616 : Nat) : Int), .int .u64 ((if x < y + b then 1 else 0 : Nat) : Int)]) w := by
  have : b = 0 ∨ b = 1 := by omega
  rcases this with rfl | rfl <;> rfl
def bor (x y : Int) : Int := if x < y then 1 else 0
theorem bor_le (x y : Int) : 0 ≤ bor x y ∧ bor x y ≤ 1 := by unfold bor; split <;> omega
theorem sub64 (x y b : Int) (hx : 0 ≤ x) (hy : 0 ≤ y) (hy' : y < 18446744073709551616) (hb0 : 0 ≤ b) (hb : b ≤ 1) (w : World) : (callFunc 103 #[.int .u64 x, .int .u64 y, .int .u64 b]).run Try.prog w =
    .ok (.value (.tuple #[.int .u64 ((x - y - b) % 18446744073709551616), .int .u64 (bor x (y + b))])) w := by
  obtain ⟨x, rfl⟩ := Int.eq_ofNat_of_zero_le hx
  obtain ⟨y, rfl⟩ := Int.eq_ofNat_of_zero_le hy
  obtain ⟨b, rfl⟩ := Int.eq_ofNat_of_zero_le hb0
  have e1 : (((x + 18446744073709551616 - y - b) % 18446744073709551616 : Nat) : Int) = ((x : Int) - y - b) % 18446744073709551616 := by omega
  have e2 : ((if x < y + b then 1 else 0 : Nat) : Int) = bor (x : Int) (y + b) := by unfold bor; split <;> split <;> omega
  rw [← e1, ← e2, run_callFunc_extern Try.func103 (by kernel_rfl) (by kernel_rfl) (by kernel_rfl) (e := sub64E) (by kernel_rfl), run_sub64 x y b (by omega)]
  rfl
theorem add64_0 (x y : Int) (hx : 0 ≤ x) (hy : 0 ≤ y) (w : World) : (callFunc 102 #[.int .u64 x, .int .u64 y, .int .u64 0]).run Try.prog w =
    .ok (.value (.tuple #[.int .u64 ((x + y) % 18446744073709551616), .int .u64 ((x + y) / 18446744073709551616)])) w := by
  simpa using add64 x y 0 hx hy (Int.le_refl 0) (by decide) w
theorem sub64_0 (x y : Int) (hx : 0 ≤ x) (hy : 0 ≤ y) (hy' : y < 18446744073709551616) (w : World) : (callFunc 103 #[.int .u64 x, .int .u64 y, .int .u64 0]).run Try.prog w =
    .ok (.value (.tuple #[.int .u64 ((x - y) % 18446744073709551616), .int .u64 (bor x y)])) w := by
  simpa using sub64 x y 0 hx hy hy' (Int.le_refl 0) (by decide) w
def Word (x : Int) : Prop := 0 ≤ x ∧ x < 18446744073709551616
def Three (w w' : World) : Prop := ∃ c1 c2 c3 : Array Value, w' = ((w.alloc (.cells c1 75)).alloc (.cells c2 75)).alloc (.cells c3 75)

set_option maxRecDepth 100000 in
theorem plus_raw (ah al bh bl : Int) (h1 : Word ah) (h2 : Word al) (h3 : Word bh) (h4 : Word bl) (w : World) :
    Calls Try.prog 92 #[.agg #[.int .u64 ah, .int .u64 al], .agg #[.int .u64 bh, .int .u64 bl]] w fun e w' =>
      e = .returned (.agg #[.int .u64 ((ah + bh + (al + bl) / 18446744073709551616) % 18446744073709551616), .int .u64 ((al + bl) % 18446744073709551616)]) ∧ Three w w' := by
  obtain ⟨a1, a2⟩ := h1; obtain ⟨b1, b2⟩ := h2; obtain ⟨c1, c2⟩ := h3; obtain ⟨d1, d2⟩ := h4
  have k0 : 0 ≤ (al + bl) / 18446744073709551616 := by omega
  have k1 : (al + bl) / 18446744073709551616 ≤ 1 := by omega
  go_enter Try.func92, Try.ntmps92
  go_wp2_with (first | simp only [add64_0 al bl b1 d1] | simp only [add64 ah bh _ a1 c1 k0 k1])
  simp [bodyPost, results, Try.results92, go_sem]
  exact ⟨_, _, _, rfl⟩
set_option maxRecDepth 100000 in
theorem minus_raw (ah al bh bl : Int) (h1 : Word ah) (h2 : Word al) (h3 : Word bh) (h4 : Word bl) (w : World) :
    Calls Try.prog 94 #[.agg #[.int .u64 ah, .int .u64 al], .agg #[.int .u64 bh, .int .u64 bl]] w fun e w' =>
      e = .returned (.agg #[.int .u64 ((ah - bh - bor al bl) % 18446744073709551616), .int .u64 ((al - bl) % 18446744073709551616)]) ∧ Three w w' := by
  obtain ⟨k0, k1⟩ := bor_le al bl
  obtain ⟨a1, a2⟩ := h1; obtain ⟨b1, b2⟩ := h2; obtain ⟨c1, c2⟩ := h3; obtain ⟨d1, d2⟩ := h4
  go_enter Try.func94, Try.ntmps94
  go_wp2_with (first | simp only [sub64_0 al bl b1 d1 d2] | simp only [sub64 ah bh _ a1 c1 c2 k0 k1])
  simp [bodyPost, results, Try.results94, go_sem]
  exact ⟨_, _, _, rfl⟩
theorem hi_word {v : Nat} (h : v < 340282366920938463463374607431768211456) : Word (hiW v) := by unfold Word hiW; omega
theorem lo_word (v : Nat) : Word (loW v) := by unfold Word loW; omega
theorem wplus_any {a b v : Nat} {w : World} (hv : Hid (a + b = v)) (h : Hid (v < 340282366920938463463374607431768211456)) :
    Calls Try.prog 92 #[.agg #[.int .u64 (hiW a : Int), .int .u64 (loW a : Int)], .agg #[.int .u64 (hiW b : Int), .int .u64 (loW b : Int)]] w fun e w' =>
      e = .returned (.agg #[.int .u64 (hiW v : Int), .int .u64 (loW v : Int)]) ∧ Three w w' := by
  have h0 := h.out
  have h1 := hv.out
  have := plus_raw (hiW a) (loW a) (hiW b) (loW b) (hi_word (by omega)) (lo_word _) (hi_word (by omega)) (lo_word _) w
  have e1 : ((hiW a : Int) + (hiW b : Int) + ((loW a : Int) + (loW b : Int)) / 18446744073709551616) % 18446744073709551616 = (hiW v : Int) := by unfold hiW loW; omega
  have e2 : ((loW a : Int) + (loW b : Int)) % 18446744073709551616 = (loW v : Int) := by unfold loW; omega
  rw [e1, e2] at this
  exact this
theorem minus_any' {a b v : Nat} {w : World} (hv : Hid (a = b + v)) (h : Hid (a < 340282366920938463463374607431768211456)) :
    Calls Try.prog 94 #[.agg #[.int .u64 (hiW a : Int), .int .u64 (loW a : Int)], .agg #[.int .u64 (hiW b : Int), .int .u64 (loW b : Int)]] w fun e w' =>
      e = .returned (.agg #[.int .u64 (hiW v : Int), .int .u64 (loW v : Int)]) ∧ Three w w' := by
  have h0 := h.out
  have h1 := hv.out
  have := minus_raw (hiW a) (loW a) (hiW b) (loW b) (hi_word (by omega)) (lo_word _) (hi_word (by omega)) (lo_word _) w
  have e1 : ((hiW a : Int) - (hiW b : Int) - bor (loW a) (loW b)) % 18446744073709551616 = (hiW v : Int) := by unfold bor hiW loW; split <;> omega
  have e2 : ((loW a : Int) - (loW b : Int)) % 18446744073709551616 = (loW v : Int) := by unfold loW; omega
  rw [e1, e2] at this
  exact this
def Two (w w' : World) : Prop := ∃ c1 c2 : Array Value, w' = (w.alloc (.cells c1 75)).alloc (.cells c2 75)
set_option maxRecDepth 100000 in
theorem less_raw (ah al bh bl : Int) (r : Bool) (hr : Hid (decide (ah < bh ∨ (ah = bh ∧ al < bl)) = r)) (w : World) :
    Calls Try.prog 95 #[.agg #[.int .u64 ah, .int .u64 al], .agg #[.int .u64 bh, .int .u64 bl]] w fun e w' =>
      e = .returned (.bool r) ∧ Two w w' := by
  by_cases c1 : ah < bh
  · have HR : Hid (r = true) := Lib.hid (hr.out.symm.trans (decide_eq_true (.inl c1)))
    go_enter Try.func95, Try.ntmps95
    go_wp2
    go_ret
    exact ⟨by rw [HR.out]; try rfl, _, _, rfl⟩
  by_cases c2 : ah = bh
  · subst c2
    by_cases c3 : al < bl
    · have HR : Hid (r = true) := Lib.hid (hr.out.symm.trans (decide_eq_true (.inr ⟨rfl, c3⟩)))
      go_enter Try.func95, Try.ntmps95
      go_wp2
      go_ret
      exact ⟨by rw [HR.out]; try rfl, _, _, rfl⟩
    · have HR : Hid (r = false) := Lib.hid (hr.out.symm.trans (decide_eq_false (by omega)))
      go_enter Try.func95, Try.ntmps95
      go_wp2
      go_ret
      exact ⟨by rw [HR.out]; try rfl, _, _, rfl⟩
  · have HR : Hid (r = false) := Lib.hid (hr.out.symm.trans (decide_eq_false (by omega)))
    have b2 : (ah == bh) = false := by rw [beq_eq_false_iff_ne]; exact c2
    go_enter Try.func95, Try.ntmps95
    go_wp2
    go_ret
    exact ⟨by rw [HR.out]; try rfl, _, _, rfl⟩
theorem less_wide {a b : Nat} {r : Bool} {w : World} (hr : Hid (decide (a < b) = r)) :
    Calls Try.prog 95 #[.agg #[.int .u64 (hiW a : Int), .int .u64 (loW a : Int)], .agg #[.int .u64 (hiW b : Int), .int .u64 (loW b : Int)]] w fun e w' =>
      e = .returned (.bool r) ∧ Two w w' := by
  refine less_raw (hiW a) (loW a) (hiW b) (loW b) r (Lib.hid ?_) w
  rw [← hr.out]
  congr 1
  apply propext
  unfold hiW loW
  omega
end Go.Proofs.Ytegeadkilolngaa

/- The contract of round's (wide).rounded. -/
namespace Go.Proofs.Ytegeadkilolngaa
open Go.RowKit

/-- a number of two words, rounded, as its code has it -/
def roundWP (way : Int) (neg : Bool) (exp : Int) (v : Nat) (lost : Bool) : Nat :=
  if hiW v = 0 then roundP way neg exp v lost
  else roundP way neg (exp + (blen (hiW v) : Int)) (v / two (blen (hiW v))) (lost || decide (v % two (blen (hiW v)) ≠ 0))
theorem or_shift (x c i : Nat) (hi : i ≤ 64) (hx : x < 2 ^ i) (hc : c * 2 ^ i < 2 ^ 64) : bits .or .u64 (IntKind.u64.wrap ((c : Int) * 2 ^ i)) (x : Int) = ((x + c * 2 ^ i : Nat) : Int) := by
  have hw : IntKind.u64.wrap ((c : Int) * 2 ^ i) = ((c * 2 ^ i : Nat) : Int) := by
    rw [show ((c : Int) * 2 ^ i) = ((c * 2 ^ i : Nat) : Int) from by simp, wrap64_nat hc]
  rw [hw]
  have e := Nat.two_pow_add_eq_or_of_lt hx c
  have hxb : x < 18446744073709551616 := Nat.lt_of_lt_of_le hx (Nat.pow_le_pow_right (by omega) hi)
  have := bits_or_u64_nat (c * 2 ^ i) x hc hxb
  rw [Nat.mul_comm c, ← e] at this
  rw [Nat.mul_comm c, this]
  congr 1
  omega
theorem wide_top {v k : Nat} (hk : blen (hiW v) = k) (hk64 : k ≤ 64) : v / two k = hiW v * two (64 - k) + loW v / two k ∧ loW v / two k < two (64 - k) ∧ hiW v * two (64 - k) < 18446744073709551616 ∧ v % two k = loW v % two k ∧ (loW v * two (64 - k) % 18446744073709551616 = 0 ↔ v % two k = 0) := by
  have hlt : hiW v < two k := by rw [← hk]; exact blen_lt _
  have h64 : two (64 - k) * two k = 18446744073709551616 := by rw [← two_add, show 64 - k + k = 64 from by omega]; rfl
  have hv : v = hiW v * two (64 - k) * two k + loW v := by rw [Nat.mul_assoc, h64]; unfold hiW loW; omega
  have hlo : loW v < two (64 - k) * two k := by rw [h64]; unfold loW; omega
  have hk0 := two_pos k
  have hk1 := two_pos (64 - k)
  refine ⟨?_, ?_, ?_, ?_, ?_⟩
  · conv => lhs; rw [hv]
    rw [Nat.add_comm, Nat.add_mul_div_right _ _ hk0, Nat.add_comm]
  · exact (Nat.div_lt_iff_lt_mul hk0).2 hlo
  · rw [← h64, Nat.mul_comm (two (64 - k))]
    exact Nat.mul_lt_mul_of_pos_right hlt hk1
  · conv => lhs; rw [hv]
    rw [Nat.add_comm, Nat.add_mul_mod_self_right]
  · have e : v % two k = loW v % two k := by
      conv => lhs; rw [hv]
      rw [Nat.add_comm, Nat.add_mul_mod_self_right]
    rw [e, ← h64, Nat.mul_comm (loW v), Nat.mul_mod_mul_left]
    constructor
    · intro h
      rcases Nat.mul_eq_zero.1 h with h | h
      · omega
      · exact h
    · intro h; rw [h, Nat.mul_zero]
def WRd (w w' : World) : Prop := ∃ c n, w' = (w.alloc (.cells c 75)).drewN n
set_option maxRecDepth 100000 in
set_option maxHeartbeats 1600000 in
theorem rounded_wide {v r : Nat} {way exp : Int} {neg lost : Bool} {w : World} (h : Hid (v < 340282366920938463463374607431768211456)) (he : -1000000 ≤ exp ∧ exp ≤ 1000000) (hr : Hid (roundWP way neg exp v lost = r)) :
    Calls Try.prog 93 #[.agg #[.int .u64 (hiW v : Int), .int .u64 (loW v : Int)], .int .i64 way, .bool neg, .int .i64 exp, .bool lost] w fun e w' => e = .returned (.int .u32 (r : Int)) ∧ WRd w w' := by
  by_cases h0 : hiW v = 0
  · have hl : loW v = v := by unfold hiW at h0; unfold loW; omega
    have hv64 : v < 18446744073709551616 := by unfold hiW at h0; omega
    have HR : Hid (roundP way neg exp v lost = r) := Lib.hid (by rw [← hr.out, roundWP, if_pos h0])
    have hb0 : blen 0 = 0 := rfl
    rw [h0, hl]
    have HV := Lib.hid hv64
    clear h0 hl hv64
    go_enter Try.func93, Try.ntmps93
    go_wp2_with fail
    refine (len_any 0 _ (by decide)).mono ?_
    rintro e w' ⟨rfl, rfl⟩
    go_wp2_with fail
    refine (round_at (s := v) rfl HV.out (by omega) HR).mono ?_
    rintro e w' ⟨rfl, rfl⟩
    go_wp2
    go_ret
    exact ⟨rfl, _, 0, rfl⟩
  · have hhi : hiW v < 18446744073709551616 := by have := h.out; unfold hiW; omega
    have hk64 := blen_64 hhi
    have hk0 := blen_pos (s := hiW v) (by omega)
    obtain ⟨k, hk⟩ : ∃ k, blen (hiW v) = k := ⟨_, rfl⟩
    obtain ⟨t1, t2, t3, t4, t5⟩ := wide_top hk (by omega)
    have HR : Hid (roundP way neg (exp + (k : Int)) (v / two k) (lost || decide (v % two k ≠ 0)) = r) := Lib.hid (by rw [← hr.out, roundWP, if_neg h0, hk])
    rw [hk] at hk64 hk0
    have HK := Lib.hid hk
    have hsig : v / two k < 18446744073709551616 := by
      have h64 : two (64 - k) * two k = 18446744073709551616 := by rw [← two_add, show 64 - k + k = 64 from by omega]; rfl
      rw [Nat.div_lt_iff_lt_mul (two_pos _)]
      have e2 : hiW v * 18446744073709551616 + loW v = v := by unfold hiW loW; omega
      have hlt : hiW v < two k := by rw [← hk]; exact blen_lt _
      have h3 : (hiW v + 1) * 18446744073709551616 ≤ two k * 18446744073709551616 := Nat.mul_le_mul_right _ hlt
      have hlo : loW v < 18446744073709551616 := by unfold loW; omega
      rw [Nat.mul_comm 18446744073709551616]
      omega
    have hor : bits .or .u64 (IntKind.u64.wrap ((hiW v : Int) * 2 ^ (64 - k))) ((loW v / two k : Nat) : Int) = ((v / two k : Nat) : Int) := by
      have h1 := or_shift (loW v / two k) (hiW v) (64 - k) (by omega) t2 t3
      rw [h1, t1, Nat.add_comm]
      rfl
    have hq := quo_cast (loW v) k
    have hne : (IntKind.u64.wrap ((loW v : Int) * 2 ^ (64 - k)) != 0) = decide (v % two k ≠ 0) := by
      rw [two_cast, ← Int.natCast_mul, IntKind.wrap_u64]
      by_cases hz : v % two k = 0
      · have := t5.2 hz
        rw [decide_eq_false (by simpa using hz)]
        rw [show (((loW v * two (64 - k) : Nat) : Int) % 18446744073709551616) = 0 from by omega]
        rfl
      · have : ¬ loW v * two (64 - k) % 18446744073709551616 = 0 := fun e => hz (t5.1 e)
        rw [decide_eq_true hz, bne_iff_ne]
        omega
    have hcast : ((64 : Int) - (k : Int)).toNat = 64 - k := by omega
    have hk1 : ((k : Int) == 0) = false := by rw [beq_eq_false_iff_ne]; omega
    have hm : min k 64 = k := by omega
    have hm2 : min (64 - k) 64 = 64 - k := by omega
    clear t1 t2 t3 t4 t5 hk h0
    obtain ⟨q, hqq⟩ : ∃ q, loW v / two k = q := ⟨_, rfl⟩
    obtain ⟨sg, hsg⟩ : ∃ q, v / two k = q := ⟨_, rfl⟩
    obtain ⟨lb, hlb⟩ : ∃ q, decide (v % two k ≠ 0) = q := ⟨_, rfl⟩
    rw [hqq] at hor hq
    rw [hsg] at hor hsig HR
    rw [hlb] at hne HR
    clear hqq hsg hlb
    have hql : q < 18446744073709551616 := by
      have h1 := (lo_word v).2
      rw [quo_cast] at hq
      have h2 := Nat.div_le_self (loW v) (two k)
      omega
    generalize hiW v = hh at *
    generalize loW v = ll at *
    cases lost
    all_goals
      go_enter Try.func93, Try.ntmps93
      go_wp2_with fail
      refine (len_any hh _ hhi).mono ?_
      rintro e w' ⟨rfl, rfl⟩
      rw [HK.out]
      go_wp2_with fail
      go_quiet (fail)
      go_wp2_with fail
      refine (round_at (s := sg) rfl hsig (by omega) HR).mono ?_
      rintro e w' ⟨rfl, rfl⟩
      go_wp2
      go_ret
      exact ⟨rfl, _, nq, rfl⟩
end Go.Proofs.Ytegeadkilolngaa

/- The contract of round.sum. -/
namespace Go.Proofs.Ytegeadkilolngaa
open Go.RowKit

/-- a sum of two that are not 0, the first one with the higher top, as its code has it -/
def sumC (way : Int) (pn : Bool) (pe : Int) (ps : Nat) (cn : Bool) (ce : Int) (cs : Nat) : Nat :=
  let E := pe + (blen ps : Int) - 126
  let a := mvV ps (pe - E)
  let b := mvV cs (ce - E)
  let lost := mvL cs (ce - E)
  if pn = cn then roundWP way pn E (a + b) lost
  else if lost = true then roundWP way pn E (a - b - 1) true
  else if a = b then sgn (way == 2)
  else if a < b then roundWP way cn E (b - a) false
  else roundWP way pn E (a - b) false
def sumF (way : Int) (pn : Bool) (pe : Int) (ps : Nat) (cn : Bool) (ce : Int) (cs : Nat) : Nat :=
  if pe + (blen ps : Int) < ce + (blen cs : Int) then sumC way cn ce cs pn pe ps else sumC way pn pe ps cn ce cs
theorem mv_top {s : Nat} {k : Int} (h0 : 0 < s) (hk : k ≤ 126 - (blen s : Int)) (hs : s < 18446744073709551616) : mvV s k < 85070591730234615865843651857942052864 := by
  have h2 := blen_lt s
  have h3 := blen_64 hs
  have h4 : two 126 = 85070591730234615865843651857942052864 := rfl
  unfold mvV
  split
  · have h1 : s * two k.toNat < two (blen s) * two k.toNat := Nat.mul_lt_mul_of_pos_right h2 (two_pos _)
    rw [← two_add] at h1
    have := two_le (show blen s + k.toNat ≤ 126 by omega)
    omega
  · have := Nat.div_le_self s (two (-k).toNat)
    omega
theorem blk3 {w : World} {g : Nat} {t : TypeId} {c0 c1 c2 : Value} (hk : Blk w g t #[c0, c1, c2]) :
    w.cell? ⟨g, 0, none⟩ = some c0 ∧ w.cell? ⟨g, 1, none⟩ = some c1 ∧ w.cell? ⟨g, 2, none⟩ = some c2 := by
  have k0 := hk.cell 0
  have k1 := hk.cell 1
  have k2 := hk.cell 2
  simp at k0 k1 k2
  exact ⟨k0, k1, k2⟩
theorem Blk.three {w : World} {g : Nat} {t : TypeId} {c0 c1 c2 : Value} (h : Blk w g t #[c0, c1, c2]) (d0 d1 d2 : Value) :
    Blk (((w.setCell ⟨g, 0, none⟩ d0).setCell ⟨g, 1, none⟩ d1).setCell ⟨g, 2, none⟩ d2) g t #[d0, d1, d2] := by
  have := ((h.set_ 0 d0).set_ 1 d1).set_ 2 d2
  simpa using this
theorem two_boxes (w : World) (X Y : Array Value) (n : Nat) : Blk (((w.alloc (.cells X 50)).alloc (.cells Y 50)).drewN n) w.heap.size 50 X ∧ Blk (((w.alloc (.cells X 50)).alloc (.cells Y 50)).drewN n) (w.heap.size + 1) 50 Y := by
  refine ⟨((Blk.new w _ _).alloc _).drewN _, ?_⟩
  have := (Blk.new (w.alloc (.cells X 50)) 50 Y).drewN n
  simpa using this
theorem blk2 {w : World} {g : Nat} {t : TypeId} {c0 c1 : Value} (hk : Blk w g t #[c0, c1]) :
    w.cell? ⟨g, 0, none⟩ = some c0 ∧ w.cell? ⟨g, 1, none⟩ = some c1 := by
  have k0 := hk.cell 0
  have k1 := hk.cell 1
  simp at k0 k1
  exact ⟨k0, k1⟩

theorem cell_lt {W : World} {g i : Nat} {v : Value} (h : W.cell? ⟨g, i, none⟩ = some v) : g < W.heap.size := by
  rcases Nat.lt_or_ge g W.heap.size with hlt | hge
  · exact hlt
  · simp [World.cell?, Array.getElem?_eq_none hge] at h
theorem kc_alloc {W : World} {g i : Nat} {v : Value} {o : Obj} (h : W.cell? ⟨g, i, none⟩ = some v) : (W.alloc o).cell? ⟨g, i, none⟩ = some v := by
  rw [World.cell?_alloc_past _ _ _ (cell_lt h)]; exact h
theorem kc_drew {W : World} {p : Addr} {v : Value} {n : Nat} (h : W.cell? p = some v) : (W.drewN n).cell? p = some v := h
theorem kc3 {W : World} {g i : Nat} {v : Value} {o1 o2 o3 : Obj} (h : W.cell? ⟨g, i, none⟩ = some v) : (((W.alloc o1).alloc o2).alloc o3).drew.cell? ⟨g, i, none⟩ = some v := kc_alloc (kc_alloc (kc_alloc h))
theorem kc4 {W : World} {g i n : Nat} {v : Value} {o1 o2 o3 o4 : Obj} (h : W.cell? ⟨g, i, none⟩ = some v) : (((((W.alloc o1).alloc o2).alloc o3).alloc o4).drewN n).cell? ⟨g, i, none⟩ = some v := kc_alloc (kc_alloc (kc_alloc (kc_alloc h)))
theorem kc6 {W : World} {g i : Nat} {v : Value} {o1 o2 o3 o4 o5 o6 : Obj} (h : W.cell? ⟨g, i, none⟩ = some v) : ((((((W.alloc o1).alloc o2).alloc o3).alloc o4).alloc o5).alloc o6).drew.cell? ⟨g, i, none⟩ = some v := kc3 (kc_alloc (kc_alloc (kc_alloc h)))
theorem kc7 {W : World} {g i n : Nat} {v : Value} {o1 o2 o3 o4 o5 o6 o7 : Obj} (h : W.cell? ⟨g, i, none⟩ = some v) : ((((((((W.alloc o1).alloc o2).alloc o3).alloc o4).alloc o5).alloc o6).alloc o7).drewN n).cell? ⟨g, i, none⟩ = some v := kc4 (kc_alloc (kc_alloc (kc_alloc h)))
theorem minus_one {a v : Nat} {w : World} (hv : Hid (a = 1 + v)) (h : Hid (a < 340282366920938463463374607431768211456)) :
    Calls Try.prog 94 #[.agg #[.int .u64 (hiW a : Int), .int .u64 (loW a : Int)], .agg #[.int .u64 0, .int .u64 1]] w fun e w' =>
      e = .returned (.agg #[.int .u64 (hiW v : Int), .int .u64 (loW v : Int)]) ∧ Three w w' := minus_any' (b := 1) hv h
theorem minus_at {a b ah al bh bl v : Nat} {w : World} (hp : Hid (hiW a = ah ∧ loW a = al)) (hq : Hid (hiW b = bh ∧ loW b = bl)) (hv : Hid (a = b + v)) (h : Hid (a < 340282366920938463463374607431768211456)) :
    Calls Try.prog 94 #[.agg #[.int .u64 (ah : Int), .int .u64 (al : Int)], .agg #[.int .u64 (bh : Int), .int .u64 (bl : Int)]] w fun e w' =>
      e = .returned (.agg #[.int .u64 (hiW v : Int), .int .u64 (loW v : Int)]) ∧ Three w w' := by
  obtain ⟨h1, h2⟩ := hp.out
  obtain ⟨h3, h4⟩ := hq.out
  rw [← h1, ← h2, ← h3, ← h4]
  exact minus_any' hv h
theorem wless_at {a b ah al bh bl : Nat} {r : Bool} {w : World} (hp : Hid (hiW a = ah ∧ loW a = al)) (hq : Hid (hiW b = bh ∧ loW b = bl)) (hr : Hid (decide (a < b) = r)) :
    Calls Try.prog 95 #[.agg #[.int .u64 (ah : Int), .int .u64 (al : Int)], .agg #[.int .u64 (bh : Int), .int .u64 (bl : Int)]] w fun e w' => e = .returned (.bool r) ∧ Two w w' := by
  obtain ⟨h1, h2⟩ := hp.out
  obtain ⟨h3, h4⟩ := hq.out
  rw [← h1, ← h2, ← h3, ← h4]
  exact less_wide hr
theorem kc1 {W : World} {g i n : Nat} {v : Value} {o : Obj} (h : W.cell? ⟨g, i, none⟩ = some v) : ((W.alloc o).drewN n).drew.cell? ⟨g, i, none⟩ = some v := kc_alloc (W := W) h
set_option maxRecDepth 100000 in
set_option maxHeartbeats 800000 in
theorem sum_any {way pe ce : Int} {pn cn : Bool} {ps cs r : Nat} {w : World} (hps : Hid (0 < ps ∧ ps < 18446744073709551616)) (hcs : Hid (0 < cs ∧ cs < 18446744073709551616)) (hpe : -10000 ≤ pe ∧ pe ≤ 10000) (hce : -10000 ≤ ce ∧ ce ≤ 10000) (hr : Hid (sumF way pn pe ps cn ce cs = r)) :
    Calls Try.prog 79 #[.int .i64 way, .agg #[.bool pn, .int .i64 pe, .int .u64 (ps : Int)], .agg #[.bool cn, .int .i64 ce, .int .u64 (cs : Int)]] w (BR w r) := by
  have hlp := blen_64 hps.out.2
  have hlc := blen_64 hcs.out.2
  obtain ⟨lp, elp⟩ : ∃ l, blen ps = l := ⟨_, rfl⟩
  obtain ⟨lc, elc⟩ : ∃ l, blen cs = l := ⟨_, rfl⟩
  rw [elp] at hlp
  rw [elc] at hlc
  have ELP := Lib.hid elp
  have ELC := Lib.hid elc
  clear elp elc
  obtain ⟨Xn, Xe, Xs, lx, Yn, Ye, Ys, ly, HXY, HXS, HYS, hXe, hYe, HR, htop, ELX, ELY, hlx, hly⟩ : ∃ (Xn : Bool) (Xe : Int) (Xs lx : Nat) (Yn : Bool) (Ye : Int) (Ys ly : Nat),
      Hid (if pe + (lp : Int) < ce + (lc : Int) then (Xn = cn ∧ Xe = ce ∧ Xs = cs ∧ Yn = pn ∧ Ye = pe ∧ Ys = ps) else (Xn = pn ∧ Xe = pe ∧ Xs = ps ∧ Yn = cn ∧ Ye = ce ∧ Ys = cs)) ∧
      Hid (0 < Xs ∧ Xs < 18446744073709551616) ∧ Hid (0 < Ys ∧ Ys < 18446744073709551616) ∧ (-10000 ≤ Xe ∧ Xe ≤ 10000) ∧ (-10000 ≤ Ye ∧ Ye ≤ 10000) ∧ Hid (sumC way Xn Xe Xs Yn Ye Ys = r) ∧ Ye + (ly : Int) ≤ Xe + (lx : Int) ∧ Hid (blen Xs = lx) ∧ Hid (blen Ys = ly) ∧ lx ≤ 64 ∧ ly ≤ 64 := by
    by_cases hlt : pe + (lp : Int) < ce + (lc : Int)
    · exact ⟨cn, ce, cs, lc, pn, pe, ps, lp, Lib.hid (by rw [if_pos hlt]; simp), hcs, hps, hce, hpe, Lib.hid (by rw [← hr.out, sumF, ELP.out, ELC.out, if_pos hlt]), by omega, ELC, ELP, hlc, hlp⟩
    · exact ⟨pn, pe, ps, lp, cn, ce, cs, lc, Lib.hid (by rw [if_neg hlt]; simp), hps, hcs, hpe, hce, Lib.hid (by rw [← hr.out, sumF, ELP.out, ELC.out, if_neg hlt]), by omega, ELP, ELC, hlp, hlc⟩
  have hw1 : wrap64 (pe + (lp : Int)) = pe + (lp : Int) := IntWalk.wrap64_in _ (by omega)
  have hw2 : wrap64 (ce + (lc : Int)) = ce + (lc : Int) := IntWalk.wrap64_in _ (by omega)
  go_enter Try.func79, Try.ntmps79
  go_wp2_with fail
  go_quiet (first
    | (go_at_call_of 80 (Value.int .u64 (ps : Int)); exact Calls.quiet_of_same (len_any ps _ hps.out.2))
    | (go_at_call_of 80 (Value.int .u64 (cs : Int)); exact Calls.quiet_of_same (len_any cs _ hcs.out.2)))
  rw [ELP.out, ELC.out]
  go_upto_if 24 with fail
  obtain ⟨sw, hsw⟩ : ∃ b, decide (wrap64 (pe + (lp : Int)) < wrap64 (ce + (lc : Int))) = b := ⟨_, rfl⟩
  simp only [hsw]
  have HSW := Lib.hid hsw
  clear hsw
  go_cut [] from 25 to 26 (fun wx => Blk wx w.heap.size 50 #[.bool Xn, .int .i64 Xe, .int .u64 (Xs : Int)] ∧ Blk wx (w.heap.size + 1) 50 #[.bool Yn, .int .i64 Ye, .int .u64 (Ys : Int)] ∧ Below w.heap.size w wx)
  case first =>
    have h := HXY.out
    by_cases hlt : pe + (lp : Int) < ce + (lc : Int)
    · obtain rfl : sw = true := HSW.out.symm.trans (by rw [hw1, hw2]; exact decide_eq_true hlt)
      clear HSW hw1 hw2
      rw [if_pos hlt] at h
      clear hlt
      obtain ⟨rfl, rfl, rfl, rfl, rfl, rfl⟩ := h
      clear HXY
      go_wp2
      go_meet
      case rel =>
        obtain ⟨q1, q2⟩ := two_boxes w #[.bool Yn, .int .i64 Ye, .int .u64 (Ys : Int)] #[.bool Xn, .int .i64 Xe, .int .u64 (Xs : Int)] nq
        refine ⟨?_, ?_, ?_⟩
        · exact (((q1.three _ _ _).far (by simp) _).far (by simp) _).far (by simp) _
        · exact (((q2.far (by simp) _).far (by simp) _).far (by simp) _).three _ _ _
        · exact ((((((below_drewN (((Below.refl w.heap.size w).alloc (Nat.le_refl _) _).alloc (by simp) _) nq).setCell (Nat.le_refl _) _).setCell (Nat.le_refl _) _).setCell (Nat.le_refl _) _).setCell (by simp) _).setCell (by simp) _).setCell (by simp) _
    · obtain rfl : sw = false := HSW.out.symm.trans (by rw [hw1, hw2]; exact decide_eq_false hlt)
      clear HSW hw1 hw2
      rw [if_neg hlt] at h
      clear hlt
      obtain ⟨rfl, rfl, rfl, rfl, rfl, rfl⟩ := h
      clear HXY
      go_wp2
      go_meet
      case rel =>
        obtain ⟨q1, q2⟩ := two_boxes w #[.bool Xn, .int .i64 Xe, .int .u64 (Xs : Int)] #[.bool Yn, .int .i64 Ye, .int .u64 (Ys : Int)] nq
        exact ⟨q1, q2, below_drewN (((Below.refl w.heap.size w).alloc (Nat.le_refl _) _).alloc (by simp) _) nq⟩
  case rest =>
    clear HXY HSW hw1 hw2 hpe hce hlp hlc hps hcs ELP ELC hr
    obtain ⟨hk4, hk5, hB⟩ := hcut
    have hz := hB.size
    obtain ⟨x0, x1, x2⟩ := blk3 hk4
    obtain ⟨y0, y1, y2⟩ := blk3 hk5
    have hw1 : wrap64 (Xe + (lx : Int)) = Xe + (lx : Int) := IntWalk.wrap64_in _ (by omega)
    obtain ⟨E, hE⟩ : ∃ E, Xe + (lx : Int) - 126 = E := ⟨_, rfl⟩
    have hw2 : wrap64 (Xe + (lx : Int) - 126) = E := by rw [hE]; exact IntWalk.wrap64_in _ (by omega)
    have HE := Lib.hid hE
    have hXE : Xe - E = 126 - (lx : Int) := by omega
    have hYE : Ye - E ≤ 126 - (ly : Int) := by omega
    have hE1 : -20000 ≤ E ∧ E ≤ 20000 := by omega
    clear hE
    go_wp2_with fail
    go_quiet (first
      | (go_at_call_of 80 (Value.int .u64 (Xs : Int)); exact Calls.quiet_of_same (len_any Xs _ HXS.out.2)))
    rw [ELX.out, hw1, hw2]
    clear x0 x1 x2 y0 y1 y2 hw1 hw2
    have hk4 := hk4.drewN nq
    have hk5 := hk5.drewN nq
    have hB := below_drewN hB nq
    have hz : w.heap.size + 1 < (wc.drewN nq).heap.size := hk5.lt
    generalize wc.drewN nq = W1 at *
    obtain ⟨x0, x1, x2⟩ := blk3 hk4
    obtain ⟨y0, y1, y2⟩ := blk3 hk5
    obtain ⟨a, ha⟩ : ∃ a, mvV Xs (126 - (lx : Int)) = a := ⟨_, rfl⟩
    obtain ⟨la, hla⟩ : ∃ a, mvL Xs (126 - (lx : Int)) = a := ⟨_, rfl⟩
    obtain ⟨b, hb⟩ : ∃ b, mvV Ys (Ye - E) = b := ⟨_, rfl⟩
    obtain ⟨lost, hlost⟩ : ∃ b, mvL Ys (Ye - E) = b := ⟨_, rfl⟩
    have ha' : a < 85070591730234615865843651857942052864 := by rw [← ha]; exact mv_top HXS.out.1 (by rw [ELX.out]; exact Int.le_refl _) HXS.out.2
    have hb' : b < 85070591730234615865843651857942052864 := by rw [← hb]; exact mv_top HYS.out.1 (by rw [ELY.out]; exact hYE) HYS.out.2
    have HSC : Hid (r = if Xn = Yn then roundWP way Xn E (a + b) lost else if lost = true then roundWP way Xn E (a - b - 1) true else if a = b then sgn (way == 2) else if a < b then roundWP way Yn E (b - a) false else roundWP way Xn E (a - b) false) := Lib.hid (by
      rw [← HR.out, sumC]
      rw [ELX.out, HE.out, hXE, ha, hb, hlost])
    have HLAB : Hid (lost = true → b + 1 ≤ a) := Lib.hid (by
      intro hl
      rw [hl] at hlost
      have hneg : ¬ 0 ≤ Ye - E := by
        intro h
        unfold mvL at hlost
        rw [if_pos h] at hlost
        cases hlost
      have h1 : b ≤ Ys := by
        rw [← hb]
        unfold mvV
        rw [if_neg hneg]
        exact Nat.div_le_self _ _
      have h2 : two 125 ≤ a := by
        rw [← ha]
        unfold mvV
        rw [if_pos (by omega)]
        have h3 := blen_le HXS.out.1
        have h4 := blen_pos HXS.out.1
        rw [ELX.out] at h3 h4
        have h5 : two (lx - 1) * two (126 - (lx : Int)).toNat ≤ Xs * two (126 - (lx : Int)).toNat := Nat.mul_le_mul_right _ h3
        rw [← two_add, show lx - 1 + (126 - (lx : Int)).toNat = 125 from by omega] at h5
        exact h5
      have h6 := HYS.out.2
      have h7 : two 125 = 42535295865117307932921825928971026432 := rfl
      omega)
    have HA := Lib.hid ha
    have HLA := Lib.hid hla
    have HBB := Lib.hid hb
    have HLO := Lib.hid hlost
    have HAL := Lib.hid ha'
    have HBL := Lib.hid hb'
    clear ha hla hb hlost ha' hb'
    go_wp2_with fail
    refine (moved_any Xs (126 - (lx : Int)) _ (Lib.hid HXS.out.2) (by omega) (Lib.hid ?_)).mono ?_
    · intro h
      have := HAL.out
      rw [← HA.out, mvV, if_pos h] at this
      omega
    rintro e W2 ⟨rfl, hB2⟩
    rw [HA.out, HLA.out]
    have hk4 := hk4.below hB2 (by omega)
    have hk5 := hk5.below hB2 hz
    have hB2' := hB.trans (hB2.mono hB.size)
    have hz2 : w.heap.size + 1 < W2.heap.size := hk5.lt
    clear x0 x1 x2 y0 y1 y2 hB hB2
    obtain ⟨x0, x1, x2⟩ := blk3 hk4
    obtain ⟨y0, y1, y2⟩ := blk3 hk5
    go_wp2_with fail
    have hk8 := Blk.new W2 75 #[.int .u64 (hiW a : Int), .int .u64 (loW a : Int)]
    have hk4 := hk4.alloc (.cells #[.int .u64 (hiW a : Int), .int .u64 (loW a : Int)] 75)
    have hk5 := hk5.alloc (.cells #[.int .u64 (hiW a : Int), .int .u64 (loW a : Int)] 75)
    have hB3 := hB2'.alloc (by omega) (.cells #[.int .u64 (hiW a : Int), .int .u64 (loW a : Int)] 75)
    have hz3 : (W2.alloc (.cells #[.int .u64 (hiW a : Int), .int .u64 (loW a : Int)] 75)).heap.size = W2.heap.size + 1 := by simp
    refine (moved_any Ys (Ye - E) _ (Lib.hid HYS.out.2) (by omega) (Lib.hid ?_)).mono ?_
    · intro h
      have := HBL.out
      rw [← HBB.out, mvV, if_pos h] at this
      omega
    rintro e W3 ⟨rfl, hB4⟩
    rw [HBB.out, HLO.out]
    have hk4 := hk4.below hB4 (by omega)
    have hk5 := hk5.below hB4 (by omega)
    have hk8 := hk8.below hB4 (by omega)
    have hB5 := hB3.trans (hB4.mono hB3.size)
    have hz5 : W2.heap.size < W3.heap.size := hk8.lt
    clear x0 x1 x2 y0 y1 y2 hB2' hB3 hB4 hz3
    go_upto_region 6 with fail
    have hk10 := Blk.new W3 75 #[.int .u64 (hiW b : Int), .int .u64 (loW b : Int)]
    have hk4 := hk4.alloc (.cells #[.int .u64 (hiW b : Int), .int .u64 (loW b : Int)] 75)
    have hk5 := hk5.alloc (.cells #[.int .u64 (hiW b : Int), .int .u64 (loW b : Int)] 75)
    have hk8 := hk8.alloc (.cells #[.int .u64 (hiW b : Int), .int .u64 (loW b : Int)] 75)
    have hB := hB5.alloc (by omega) (.cells #[.int .u64 (hiW b : Int), .int .u64 (loW b : Int)] 75)
    clear hB5
    generalize W3.alloc (.cells #[.int .u64 (hiW b : Int), .int .u64 (loW b : Int)] 75) = W at *
    obtain ⟨x0, -, -⟩ := blk3 hk4
    obtain ⟨y0, -, -⟩ := blk3 hk5
    obtain ⟨a0, a1⟩ := blk2 hk8
    obtain ⟨b0, b1⟩ := blk2 hk10
    have l4 := hk4.lt
    have l5 := hk5.lt
    have l8 := hk8.lt
    have l10 := hk10.lt
    have hz9 := hB.size
    have hal := HAL.out
    have hbl := HBL.out
    clear hk4 hk5 hk8 hk10 HXS HYS HR HE ELX ELY HA HLA HBB HLO hXE hYE
    by_cases hn : Xn = Yn
    · subst hn
      have HF : Hid (roundWP way Xn E (a + b) lost = r) := Lib.hid (by rw [HSC.out, if_pos rfl])
      clear HSC
      go_wp2
      go_region_held3 (fun w' => w'.cell? ⟨W2.heap.size, 0, none⟩ = some (.int .u64 (hiW a : Int)) ∧ w'.cell? ⟨W2.heap.size, 1, none⟩ = some (.int .u64 (loW a : Int)) ∧ w'.cell? ⟨W3.heap.size, 0, none⟩ = some (.int .u64 (hiW b : Int)) ∧ w'.cell? ⟨W3.heap.size, 1, none⟩ = some (.int .u64 (loW b : Int)) ∧ w'.cell? ⟨w.heap.size, 0, none⟩ = some (.bool Xn))
        (first
          | exact ⟨kc3 a0, kc3 a1, kc3 b0, kc3 b1, kc3 x0⟩
          | exact ⟨kc4 a0, kc4 a1, kc4 b0, kc4 b1, kc4 x0⟩
          | exact ⟨a0, a1, b0, b1, x0⟩)
        (first
          | (go_at_call 92; refine (wplus_any (v := a + b) (Lib.hid rfl) (Lib.hid (by omega))).mono ?_; rintro e w' ⟨rfl, o1, o2, o3, rfl⟩)
          | (go_at_call 93; refine (rounded_wide (v := a + b) (Lib.hid (by omega)) (by omega) HF).mono ?_; rintro e w' ⟨rfl, o4, n4, rfl⟩))
      go_wp2
      go_ret
      exact ⟨rfl, below_drewN ((((hB.alloc hz9 _).alloc (by simp; omega) _).alloc (by simp; omega) _).alloc (by simp; omega) _) _⟩
    have HSC2 : Hid (r = if lost = true then roundWP way Xn E (a - b - 1) true else if a = b then sgn (way == 2) else if a < b then roundWP way Yn E (b - a) false else roundWP way Xn E (a - b) false) := Lib.hid (by rw [HSC.out, if_neg hn])
    obtain rfl : Yn = !Xn := by cases Xn <;> cases Yn <;> simp_all
    have hq : (Xn == !Xn) = false := by cases Xn <;> rfl
    clear HSC hn
    cases lost
    case true =>
      have HF : Hid (roundWP way Xn E (a - b - 1) true = r) := Lib.hid (by rw [HSC2.out, if_pos rfl])
      have hab := HLAB.out rfl
      clear HSC2
      go_wp2
      go_region_held3 (fun w' => w'.cell? ⟨W2.heap.size, 0, none⟩ = some (.int .u64 (hiW a : Int)) ∧ w'.cell? ⟨W2.heap.size, 1, none⟩ = some (.int .u64 (loW a : Int)) ∧ w'.cell? ⟨W3.heap.size, 0, none⟩ = some (.int .u64 (hiW b : Int)) ∧ w'.cell? ⟨W3.heap.size, 1, none⟩ = some (.int .u64 (loW b : Int)) ∧ w'.cell? ⟨w.heap.size, 0, none⟩ = some (.bool Xn))
        (first
          | exact ⟨kc3 a0, kc3 a1, kc3 b0, kc3 b1, kc3 x0⟩
          | exact ⟨kc6 a0, kc6 a1, kc6 b0, kc6 b1, kc6 x0⟩
          | exact ⟨kc7 a0, kc7 a1, kc7 b0, kc7 b1, kc7 x0⟩
          | exact ⟨a0, a1, b0, b1, x0⟩)
        (first
          | (go_at_call_of 94 (Value.agg #[.int .u64 (hiW a : Int), .int .u64 (loW a : Int)]); refine (minus_any' (v := a - b) (Lib.hid (by omega)) (Lib.hid (by omega))).mono ?_; rintro e w' ⟨rfl, o1, o2, o3, rfl⟩)
          | (go_at_call_of 94 (Value.agg #[.int .u64 (hiW (a - b) : Int), .int .u64 (loW (a - b) : Int)]); refine (minus_one (v := a - b - 1) (Lib.hid (by omega)) (Lib.hid (by omega))).mono ?_; rintro e w' ⟨rfl, o4, o5, o6, rfl⟩)
          | (go_at_call 93; refine (rounded_wide (v := a - b - 1) (Lib.hid (by omega)) (by omega) HF).mono ?_; rintro e w' ⟨rfl, o7, n4, rfl⟩))
      go_wp2
      go_ret
      exact ⟨rfl, below_drewN (((((((hB.alloc hz9 _).alloc (by simp; omega) _).alloc (by simp; omega) _).alloc (by simp; omega) _).alloc (by simp; omega) _).alloc (by simp; omega) _).alloc (by simp; omega) _) _⟩
    have HSC3 : Hid (r = if a = b then sgn (way == 2) else if a < b then roundWP way (!Xn) E (b - a) false else roundWP way Xn E (a - b) false) := Lib.hid (by rw [HSC2.out, if_neg (by decide)])
    clear HSC2 HLAB
    by_cases hab : a = b
    · have HF : Hid (sgn (way == 2) = r) := Lib.hid (by rw [HSC3.out, if_pos hab])
      clear HSC3
      subst hab
      go_wp2_with fail
      refine (rsign_any _ _).mono ?_
      rintro e w' ⟨rfl, rfl⟩
      rw [HF.out]
      go_wp2
      go_ret
      exact ⟨rfl, hB⟩
    obtain ⟨ah, hah⟩ : ∃ x, hiW a = x := ⟨_, rfl⟩
    obtain ⟨al, hal'⟩ : ∃ x, loW a = x := ⟨_, rfl⟩
    obtain ⟨bh, hbh⟩ : ∃ x, hiW b = x := ⟨_, rfl⟩
    obtain ⟨bl', hbl'⟩ : ∃ x, loW b = x := ⟨_, rfl⟩
    rw [hah] at a0
    rw [hal'] at a1
    rw [hbh] at b0
    rw [hbl'] at b1
    simp only [hah, hal', hbh, hbl']
    have hne : ah = bh → al ≠ bl' := by
      intro h1 h2
      rw [← hah, ← hbh] at h1
      rw [← hal', ← hbl'] at h2
      unfold hiW at h1
      unfold loW at h2
      omega
    have HP : Hid (hiW a = ah ∧ loW a = al) := Lib.hid ⟨hah, hal'⟩
    have HQ : Hid (hiW b = bh ∧ loW b = bl') := Lib.hid ⟨hbh, hbl'⟩
    clear hah hal' hbh hbl'
    by_cases hlt : a < b
    · have HF : Hid (roundWP way (!Xn) E (b - a) false = r) := Lib.hid (by rw [HSC3.out, if_neg hab, if_pos hlt])
      clear HSC3 hab
      by_cases heq : ah = bh
      · subst heq
        have hll : ¬ (al : Int) = (bl' : Int) := by have := hne rfl; omega
        clear hne
        go_wp2_with fail
        refine (wless_at HP HQ (Lib.hid (decide_eq_true hlt))).mono ?_
        rintro e w' ⟨rfl, o8, o9, rfl⟩
        have a0 := kc_alloc (o := .cells o9 75) (kc_alloc (o := .cells o8 75) a0)
        have a1 := kc_alloc (o := .cells o9 75) (kc_alloc (o := .cells o8 75) a1)
        have b0 := kc_alloc (o := .cells o9 75) (kc_alloc (o := .cells o8 75) b0)
        have b1 := kc_alloc (o := .cells o9 75) (kc_alloc (o := .cells o8 75) b1)
        have n0 := kc_alloc (o := .cells o9 75) (kc_alloc (o := .cells o8 75) y0)
        have hB := (hB.alloc hz9 (.cells o8 75)).alloc (by simp; omega) (.cells o9 75)
        have hz9 := hB.size
        clear x0 y0 l4 l5 l8 l10
        generalize (W.alloc (.cells o8 75)).alloc (.cells o9 75) = W at *
        go_wp2_with fail
        go_region_held3 (fun w' => w'.cell? ⟨W2.heap.size, 0, none⟩ = some (.int .u64 (ah : Int)) ∧ w'.cell? ⟨W2.heap.size, 1, none⟩ = some (.int .u64 (al : Int)) ∧ w'.cell? ⟨W3.heap.size, 0, none⟩ = some (.int .u64 (ah : Int)) ∧ w'.cell? ⟨W3.heap.size, 1, none⟩ = some (.int .u64 (bl' : Int)) ∧ w'.cell? ⟨w.heap.size + 1, 0, none⟩ = some (.bool (!Xn)))
          (first
            | exact ⟨kc3 a0, kc3 a1, kc3 b0, kc3 b1, kc3 n0⟩
            | exact ⟨kc4 a0, kc4 a1, kc4 b0, kc4 b1, kc4 n0⟩
            | exact ⟨a0, a1, b0, b1, n0⟩)
          (first
            | (go_at_call 94; refine (minus_at HQ HP (v := b - a) (Lib.hid (by omega)) (Lib.hid (by omega))).mono ?_; rintro e w' ⟨rfl, o1, o2, o3, rfl⟩)
            | (go_at_call 93; refine (rounded_wide (v := b - a) (Lib.hid (by omega)) (by omega) HF).mono ?_; rintro e w' ⟨rfl, o4, n4, rfl⟩))
        go_wp2
        go_ret
        exact ⟨rfl, below_drewN ((((hB.alloc hz9 _).alloc (by simp; omega) _).alloc (by simp; omega) _).alloc (by simp; omega) _) _⟩
      · have hhh : ¬ (ah : Int) = (bh : Int) := by omega
        clear hne heq
        go_wp2_with fail
        refine (wless_at HP HQ (Lib.hid (decide_eq_true hlt))).mono ?_
        rintro e w' ⟨rfl, o8, o9, rfl⟩
        have a0 := kc_alloc (o := .cells o9 75) (kc_alloc (o := .cells o8 75) a0)
        have a1 := kc_alloc (o := .cells o9 75) (kc_alloc (o := .cells o8 75) a1)
        have b0 := kc_alloc (o := .cells o9 75) (kc_alloc (o := .cells o8 75) b0)
        have b1 := kc_alloc (o := .cells o9 75) (kc_alloc (o := .cells o8 75) b1)
        have n0 := kc_alloc (o := .cells o9 75) (kc_alloc (o := .cells o8 75) y0)
        have hB := (hB.alloc hz9 (.cells o8 75)).alloc (by simp; omega) (.cells o9 75)
        have hz9 := hB.size
        clear x0 y0 l4 l5 l8 l10
        generalize (W.alloc (.cells o8 75)).alloc (.cells o9 75) = W at *
        go_wp2_with fail
        go_region_held3 (fun w' => w'.cell? ⟨W2.heap.size, 0, none⟩ = some (.int .u64 (ah : Int)) ∧ w'.cell? ⟨W2.heap.size, 1, none⟩ = some (.int .u64 (al : Int)) ∧ w'.cell? ⟨W3.heap.size, 0, none⟩ = some (.int .u64 (bh : Int)) ∧ w'.cell? ⟨W3.heap.size, 1, none⟩ = some (.int .u64 (bl' : Int)) ∧ w'.cell? ⟨w.heap.size + 1, 0, none⟩ = some (.bool (!Xn)))
          (first
            | exact ⟨kc3 a0, kc3 a1, kc3 b0, kc3 b1, kc3 n0⟩
            | exact ⟨kc4 a0, kc4 a1, kc4 b0, kc4 b1, kc4 n0⟩
            | exact ⟨a0, a1, b0, b1, n0⟩)
          (first
            | (go_at_call 94; refine (minus_at HQ HP (v := b - a) (Lib.hid (by omega)) (Lib.hid (by omega))).mono ?_; rintro e w' ⟨rfl, o1, o2, o3, rfl⟩)
            | (go_at_call 93; refine (rounded_wide (v := b - a) (Lib.hid (by omega)) (by omega) HF).mono ?_; rintro e w' ⟨rfl, o4, n4, rfl⟩))
        go_wp2
        go_ret
        exact ⟨rfl, below_drewN ((((hB.alloc hz9 _).alloc (by simp; omega) _).alloc (by simp; omega) _).alloc (by simp; omega) _) _⟩
    · have HF : Hid (roundWP way Xn E (a - b) false = r) := Lib.hid (by rw [HSC3.out, if_neg hab, if_neg hlt])
      clear HSC3 hab
      by_cases heq : ah = bh
      · subst heq
        have hll : ¬ (al : Int) = (bl' : Int) := by have := hne rfl; omega
        clear hne
        go_wp2_with fail
        refine (wless_at HP HQ (Lib.hid (decide_eq_false hlt))).mono ?_
        rintro e w' ⟨rfl, o8, o9, rfl⟩
        have a0 := kc_alloc (o := .cells o9 75) (kc_alloc (o := .cells o8 75) a0)
        have a1 := kc_alloc (o := .cells o9 75) (kc_alloc (o := .cells o8 75) a1)
        have b0 := kc_alloc (o := .cells o9 75) (kc_alloc (o := .cells o8 75) b0)
        have b1 := kc_alloc (o := .cells o9 75) (kc_alloc (o := .cells o8 75) b1)
        have n0 := kc_alloc (o := .cells o9 75) (kc_alloc (o := .cells o8 75) x0)
        have hB := (hB.alloc hz9 (.cells o8 75)).alloc (by simp; omega) (.cells o9 75)
        have hz9 := hB.size
        clear x0 y0 l4 l5 l8 l10
        generalize (W.alloc (.cells o8 75)).alloc (.cells o9 75) = W at *
        go_wp2_with fail
        go_region_held3 (fun w' => w'.cell? ⟨W2.heap.size, 0, none⟩ = some (.int .u64 (ah : Int)) ∧ w'.cell? ⟨W2.heap.size, 1, none⟩ = some (.int .u64 (al : Int)) ∧ w'.cell? ⟨W3.heap.size, 0, none⟩ = some (.int .u64 (ah : Int)) ∧ w'.cell? ⟨W3.heap.size, 1, none⟩ = some (.int .u64 (bl' : Int)) ∧ w'.cell? ⟨w.heap.size, 0, none⟩ = some (.bool (Xn)))
          (first
            | exact ⟨kc3 a0, kc3 a1, kc3 b0, kc3 b1, kc3 n0⟩
            | exact ⟨kc4 a0, kc4 a1, kc4 b0, kc4 b1, kc4 n0⟩
            | exact ⟨a0, a1, b0, b1, n0⟩)
          (first
            | (go_at_call 94; refine (minus_at HP HQ (v := a - b) (Lib.hid (by omega)) (Lib.hid (by omega))).mono ?_; rintro e w' ⟨rfl, o1, o2, o3, rfl⟩)
            | (go_at_call 93; refine (rounded_wide (v := a - b) (Lib.hid (by omega)) (by omega) HF).mono ?_; rintro e w' ⟨rfl, o4, n4, rfl⟩))
        go_wp2
        go_ret
        exact ⟨rfl, below_drewN ((((hB.alloc hz9 _).alloc (by simp; omega) _).alloc (by simp; omega) _).alloc (by simp; omega) _) _⟩
      · have hhh : ¬ (ah : Int) = (bh : Int) := by omega
        clear hne heq
        go_wp2_with fail
        refine (wless_at HP HQ (Lib.hid (decide_eq_false hlt))).mono ?_
        rintro e w' ⟨rfl, o8, o9, rfl⟩
        have a0 := kc_alloc (o := .cells o9 75) (kc_alloc (o := .cells o8 75) a0)
        have a1 := kc_alloc (o := .cells o9 75) (kc_alloc (o := .cells o8 75) a1)
        have b0 := kc_alloc (o := .cells o9 75) (kc_alloc (o := .cells o8 75) b0)
        have b1 := kc_alloc (o := .cells o9 75) (kc_alloc (o := .cells o8 75) b1)
        have n0 := kc_alloc (o := .cells o9 75) (kc_alloc (o := .cells o8 75) x0)
        have hB := (hB.alloc hz9 (.cells o8 75)).alloc (by simp; omega) (.cells o9 75)
        have hz9 := hB.size
        clear x0 y0 l4 l5 l8 l10
        generalize (W.alloc (.cells o8 75)).alloc (.cells o9 75) = W at *
        go_wp2_with fail
        go_region_held3 (fun w' => w'.cell? ⟨W2.heap.size, 0, none⟩ = some (.int .u64 (ah : Int)) ∧ w'.cell? ⟨W2.heap.size, 1, none⟩ = some (.int .u64 (al : Int)) ∧ w'.cell? ⟨W3.heap.size, 0, none⟩ = some (.int .u64 (bh : Int)) ∧ w'.cell? ⟨W3.heap.size, 1, none⟩ = some (.int .u64 (bl' : Int)) ∧ w'.cell? ⟨w.heap.size, 0, none⟩ = some (.bool (Xn)))
          (first
            | exact ⟨kc3 a0, kc3 a1, kc3 b0, kc3 b1, kc3 n0⟩
            | exact ⟨kc4 a0, kc4 a1, kc4 b0, kc4 b1, kc4 n0⟩
            | exact ⟨a0, a1, b0, b1, n0⟩)
          (first
            | (go_at_call 94; refine (minus_at HP HQ (v := a - b) (Lib.hid (by omega)) (Lib.hid (by omega))).mono ?_; rintro e w' ⟨rfl, o1, o2, o3, rfl⟩)
            | (go_at_call 93; refine (rounded_wide (v := a - b) (Lib.hid (by omega)) (by omega) HF).mono ?_; rintro e w' ⟨rfl, o4, n4, rfl⟩))
        go_wp2
        go_ret
        exact ⟨rfl, below_drewN ((((hB.alloc hz9 _).alloc (by simp; omega) _).alloc (by simp; omega) _).alloc (by simp; omega) _) _⟩
end Go.Proofs.Ytegeadkilolngaa

/- Plain: the sum of the code, taken apart and shifted, is the exact sum, rounded. -/
namespace Go.Proofs.Ytegeadkilolngaa

/-- a number of two words, and less than one part more, rounded -/
theorem roundW_rnd {way : Int} {neg : Bool} {E : Int} {v p q : Nat} {lost : Bool} (hv : v < 340282366920938463463374607431768211456) (hv0 : 0 < v) (hq : 0 < q)
    (hm : lost = false → v * (two (E + 149).toNat * q) = p * two (-(E + 149)).toNat)
    (hl : lost = true → 16777216 ≤ v ∧ v * (two (E + 149).toNat * q) < p * two (-(E + 149)).toNat ∧ p * two (-(E + 149)).toNat < (v + 1) * (two (E + 149).toNat * q)) :
    roundWP way neg E v lost = rnd way neg p q := by
  unfold roundWP
  by_cases h0 : hiW v = 0
  · rw [if_pos h0]
    have h64 : v < 18446744073709551616 := by unfold hiW at h0; omega
    refine round_rnd hv0 h64 hq ?_
    unfold RV
    dsimp only
    cases lost
    · simp only [Bool.false_eq_true, if_false]; exact hm rfl
    · simp only [if_true]
      obtain ⟨h1, h2, h3⟩ := hl rfl
      exact ⟨h2, h3, .inl h1⟩
  · rw [if_neg h0]
    have hh1 : 0 < hiW v := by omega
    have hh64 : hiW v < 18446744073709551616 := by unfold hiW; omega
    have hk64 := blen_64 hh64
    have hb1 := blen_le hh1
    have hb2 := blen_lt (hiW v)
    have hb3 := blen_pos hh1
    have hdm := Nat.div_add_mod v (two (blen (hiW v)))
    have hml := Nat.mod_lt v (two_pos (blen (hiW v)))
    have hvh : v = hiW v * 18446744073709551616 + loW v := by unfold hiW loW; omega
    have hlo : loW v < 18446744073709551616 := by unfold loW; omega
    obtain ⟨k, hk⟩ : ∃ k, blen (hiW v) = k := ⟨_, rfl⟩
    rw [hk] at hk64 hb1 hb2 hb3 hdm hml ⊢
    obtain ⟨Q, hQ⟩ : ∃ Q, v / two k = Q := ⟨_, rfl⟩
    obtain ⟨R, hR⟩ : ∃ R, v % two k = R := ⟨_, rfl⟩
    have hk0 := two_pos k
    have hQ1 : 9223372036854775808 ≤ Q := by
      rw [← hQ, Nat.le_div_iff_mul_le hk0]
      have e1 : two k = 2 * two (k - 1) := by rw [← two_succ]; congr 1; omega
      rw [e1]
      have h3 : two (k - 1) * 18446744073709551616 ≤ hiW v * 18446744073709551616 := Nat.mul_le_mul_right _ hb1
      omega
    have hQ2 : Q < 18446744073709551616 := by
      rw [← hQ, Nat.div_lt_iff_lt_mul hk0]
      have h3 : (hiW v + 1) * 18446744073709551616 ≤ two k * 18446744073709551616 := Nat.mul_le_mul_right _ hb2
      omega
    rw [hQ, hR] at hdm ⊢
    rw [hR] at hml
    clear hQ hR hvh hlo hh1 hh64 hb1 hb2 hv h0 hk
    refine round_rnd (by omega) hQ2 hq ?_
    -- both sides: once more by powers of two
    have hX : two (E + (k : Int) + 149).toNat * two (-(E + 149)).toNat = two k * two (E + 149).toNat * two (-(E + (k : Int) + 149)).toNat := by
      rw [← two_add, ← two_add, ← two_add]
      congr 1
      omega
    unfold RV
    dsimp only
    have hm1 := two_pos (-(E + 149)).toNat
    have hm2 := two_pos (-(E + (k : Int) + 149)).toNat
    have hA0 : 0 < two (E + 149).toNat * q := Nat.mul_pos (two_pos _) hq
    have hA : two (E + (k : Int) + 149).toNat * q * two (-(E + 149)).toNat = two k * (two (E + 149).toNat * q) * two (-(E + (k : Int) + 149)).toNat := by
      rw [Nat.mul_right_comm, hX]
      generalize two k = x; generalize two (E + 149).toNat = y; generalize two (-(E + (k : Int) + 149)).toNat = z
      rw [Nat.mul_right_comm, Nat.mul_assoc x]
    have hP : p * two (-(E + (k : Int) + 149)).toNat * two (-(E + 149)).toNat = p * two (-(E + 149)).toNat * two (-(E + (k : Int) + 149)).toNat := Nat.mul_right_comm _ _ _
    clear hX
    generalize two (-(E + 149)).toNat = m1 at *
    generalize two (-(E + (k : Int) + 149)).toNat = m2 at *
    generalize two (E + 149).toNat * q = A at *
    generalize two (E + (k : Int) + 149).toNat * q = A' at *
    generalize hPP : p * m1 = P at *
    generalize p * m2 = P' at *
    have e1 : Q * A' * m1 = Q * two k * A * m2 := by rw [Nat.mul_assoc, hA, ← Nat.mul_assoc, ← Nat.mul_assoc]
    have e2 : (Q + 1) * A' * m1 = (Q + 1) * two k * A * m2 := by rw [Nat.mul_assoc, hA, ← Nat.mul_assoc, ← Nat.mul_assoc]
    have e3 : v * A = Q * two k * A + R * A := by rw [← hdm, Nat.add_mul, Nat.mul_comm (two k)]
    have e4 : (Q + 1) * two k * A = Q * two k * A + two k * A := by rw [Nat.add_mul Q, Nat.one_mul, Nat.add_mul]
    have e5 : (v + 1) * A = Q * two k * A + R * A + A := by rw [Nat.add_mul, Nat.one_mul, e3]
    have l1 : R * A + A ≤ two k * A := by
      have := Nat.mul_le_mul_right A (show R + 1 ≤ two k from hml)
      rw [Nat.add_mul, Nat.one_mul] at this
      exact this
    have l2 : R ≠ 0 → 0 < R * A := fun h => Nat.mul_pos (by omega) hA0
    have l3 : R = 0 → R * A = 0 := fun h => by rw [h, Nat.zero_mul]
    by_cases hmore : lost = true ∨ R ≠ 0
    · have hb : (lost || decide (R ≠ 0)) = true := by
        rcases hmore with h | h
        · rw [h]; rfl
        · rw [decide_eq_true h, Bool.or_true]
      rw [hb]
      simp only [if_true]
      have key : Q * two k * A < P ∧ P < (Q + 1) * two k * A := by
        rw [e4]
        cases lost
        · have h1 := hm rfl
          have hr : R ≠ 0 := by
            rcases hmore with h | h
            · cases h
            · exact h
          have := l2 hr
          rw [e3] at h1
          omega
        · obtain ⟨h1, h2, h3⟩ := hl rfl
          rw [e3] at h2
          rw [e5] at h3
          omega
      refine ⟨?_, ?_, .inl (by omega)⟩
      · refine Nat.lt_of_mul_lt_mul_right (a := m1) ?_
        rw [e1, hP]
        exact Nat.mul_lt_mul_of_pos_right key.1 hm2
      · refine Nat.lt_of_mul_lt_mul_right (a := m1) ?_
        rw [e2, hP]
        exact Nat.mul_lt_mul_of_pos_right key.2 hm2
    · have h1 : lost = false := by cases lost <;> simp at hmore ⊢
      have h2 : R = 0 := by
        by_cases h : R = 0
        · exact h
        · exact absurd (.inr h) hmore
      have hb : (lost || decide (R ≠ 0)) = false := by rw [h1, h2]; rfl
      rw [hb]
      simp only [Bool.false_eq_true, if_false]
      refine Nat.eq_of_mul_eq_mul_right hm1 ?_
      have h3 := hm h1
      rw [e3, l3 h2, Nat.add_zero] at h3
      rw [e1, hP, h3]
/-- the sum of two, by what they are worth in units of 2^-298 -/
def sumW (way : Int) (xn yn : Bool) (X Y : Nat) : Nat :=
  if xn = yn then rnd way xn (X + Y) (two 149) else if X = Y then sgn (way == 2) else if Y < X then rnd way xn (X - Y) (two 149) else rnd way yn (Y - X) (two 149)
theorem sumW_comm {way : Int} {xn yn : Bool} {X Y : Nat} : sumW way xn yn X Y = sumW way yn xn Y X := by
  unfold sumW
  by_cases h : xn = yn
  · rw [if_pos h, if_pos h.symm, h, Nat.add_comm]
  · rw [if_neg h, if_neg (show ¬ yn = xn from fun e => h e.symm)]
    by_cases e : X = Y
    · rw [if_pos e, if_pos e.symm]
    · rw [if_neg e, if_neg (show ¬ Y = X from fun h => e h.symm)]
      by_cases l : Y < X
      · rw [if_pos l, if_neg (by omega)]
      · rw [if_neg l, if_pos (by omega)]
theorem sumC_law {way : Int} {pn cn : Bool} {pe ce : Int} {ps cs i j : Nat} (hps : 0 < ps) (hcs : 0 < cs) (hps64 : ps < 18446744073709551616) (hcs64 : cs < 18446744073709551616) (hi : pe + 298 = (i : Int)) (hj : ce + 298 = (j : Int)) (htop : ce + (blen cs : Int) ≤ pe + (blen ps : Int)) :
    sumC way pn pe ps cn ce cs = sumW way pn cn (ps * two i) (cs * two j) := by
  have hlp := blen_64 hps64
  have hlp1 := blen_pos hps
  have hlow := blen_le hps
  unfold sumC
  dsimp only
  obtain ⟨lp, elp⟩ : ∃ l, blen ps = l := ⟨_, rfl⟩
  have hat := mv_top (s := ps) (k := 126 - (lp : Int)) hps (by rw [elp]; exact Int.le_refl _) hps64
  obtain ⟨E, hE⟩ : ∃ E, pe + (blen ps : Int) - 126 = E := ⟨_, rfl⟩
  have hbt := mv_top (s := cs) (k := ce - E) hcs (by omega) hcs64
  rw [hE]
  rw [elp] at hE hlp hlp1 hlow
  rw [show pe - E = 126 - (lp : Int) from by omega]
  have hQ : 0 < two 149 := two_pos _
  obtain ⟨A, hA⟩ : ∃ A, two (E + 149).toNat * two 149 = A := ⟨_, rfl⟩
  obtain ⟨m, hm⟩ : ∃ m, two (-(E + 149)).toNat = m := ⟨_, rfl⟩
  have hm0 : 0 < m := by rw [← hm]; exact two_pos _
  have hA0 : 0 < A := by rw [← hA]; exact Nat.mul_pos (two_pos _) (two_pos _)
  -- the greater one
  have ha : mvV ps (126 - (lp : Int)) * A = ps * two i * m := by
    unfold mvV
    rw [if_pos (by omega), ← hA, ← hm, Nat.mul_assoc, Nat.mul_assoc, ← two_add, ← two_add, ← two_add]
    congr 2
    omega
  have hab : 42535295865117307932921825928971026432 ≤ mvV ps (126 - (lp : Int)) := by
    have h7 : two 125 = 42535295865117307932921825928971026432 := rfl
    unfold mvV
    rw [if_pos (by omega), ← h7]
    have h5 : two (lp - 1) * two (126 - (lp : Int)).toNat ≤ ps * two (126 - (lp : Int)).toNat := Nat.mul_le_mul_right _ hlow
    rw [← two_add, show lp - 1 + (126 - (lp : Int)).toNat = 125 from by omega] at h5
    exact h5
  -- the lesser one
  have hb : mvV cs (ce - E) * A ≤ cs * two j * m ∧ cs * two j * m < (mvV cs (ce - E) + 1) * A ∧ (mvL cs (ce - E) = true ↔ mvV cs (ce - E) * A ≠ cs * two j * m) ∧ (mvL cs (ce - E) = true → mvV cs (ce - E) < 18446744073709551616) := by
    unfold mvV mvL
    by_cases hk : 0 ≤ ce - E
    · rw [if_pos hk, if_pos hk]
      have e : cs * two (ce - E).toNat * A = cs * two j * m := by
        rw [← hA, ← hm, Nat.mul_assoc, Nat.mul_assoc, ← two_add, ← two_add, ← two_add]
        congr 2
        omega
      refine ⟨by omega, ?_, ?_, ?_⟩
      · rw [Nat.add_mul, Nat.one_mul]; omega
      · rw [e]; simp
      · intro h; cases h
    · rw [if_neg hk, if_neg hk]
      obtain ⟨d, hd⟩ : ∃ d : Nat, (-(ce - E)).toNat = d := ⟨_, rfl⟩
      obtain ⟨t, ht⟩ : ∃ t : Nat, (E + 149).toNat + 149 = d + t := ⟨(E + 149).toNat + 149 - d, by omega⟩
      have hAt : A = two d * two t := by rw [← hA, ← two_add, ← two_add, ht]
      have hjt : two j * m = two t := by
        rw [← hm, ← two_add]
        congr 1
        omega
      rw [hd]
      have hdm := Nat.div_add_mod cs (two d)
      have hml := Nat.mod_lt cs (two_pos d)
      have hT := two_pos t
      have hle := Nat.div_le_self cs (two d)
      have e1 : cs * two j * m = cs / two d * A + cs % two d * two t := by
        rw [Nat.mul_assoc, hjt]
        conv => lhs; rw [← hdm]
        rw [Nat.add_mul, Nat.mul_comm (two d), Nat.mul_assoc, hAt]
      have e2 : cs % two d * two t < A := by rw [hAt]; exact Nat.mul_lt_mul_of_pos_right hml hT
      have e3 : cs % two d ≠ 0 → 0 < cs % two d * two t := fun h => Nat.mul_pos (by omega) hT
      have e4 : cs % two d = 0 → cs % two d * two t = 0 := fun h => by rw [h, Nat.zero_mul]
      rw [e1]
      refine ⟨by omega, ?_, ?_, fun _ => by omega⟩
      · rw [Nat.add_mul, Nat.one_mul]; omega
      · rw [decide_eq_true_eq]
        constructor
        · intro h; have := e3 h; omega
        · intro h h'; have := e4 h'; omega
  obtain ⟨b1, b2, b3, b4⟩ := hb
  generalize mvV ps (126 - (lp : Int)) = a at *
  generalize mvV cs (ce - E) = b at *
  generalize mvL cs (ce - E) = lost at *
  generalize ps * two i = X at *
  generalize cs * two j = Y at *
  rw [Nat.add_mul, Nat.one_mul] at b2
  have hXY : (X + Y) * m = a * A + Y * m := by rw [Nat.add_mul, ha]
  unfold sumW
  by_cases hn : pn = cn
  · rw [if_pos hn, if_pos hn]
    refine roundW_rnd (by omega) (by omega) hQ ?_ ?_
    · intro h
      have h1 : b * A = Y * m := by
        by_cases e : b * A = Y * m
        · exact e
        · rw [b3.2 e] at h; cases h
      rw [hA, hm, hXY, Nat.add_mul, h1]
    · intro h
      have h1 := b3.1 h
      rw [hA, hm, hXY, Nat.add_mul a b A, Nat.add_mul (a + b), Nat.one_mul, Nat.add_mul a b A]
      exact ⟨by omega, by omega, by omega⟩
  · rw [if_neg hn, if_neg hn]
    cases lost
    · have h1 : b * A = Y * m := by
        by_cases e : b * A = Y * m
        · exact e
        · have := b3.2 e; cases this
      rw [if_neg (by decide)]
      by_cases he : a = b
      · have hxy : X = Y := by
          rw [he, h1] at ha
          exact (Nat.eq_of_mul_eq_mul_right hm0 ha).symm
        rw [if_pos he, if_pos hxy]
      · have hxy : X ≠ Y := fun e => by
          rw [e, ← h1] at ha
          exact he (Nat.eq_of_mul_eq_mul_right hA0 ha)
        rw [if_neg he, if_neg hxy]
        by_cases hl : a < b
        · have h2 : X < Y := Nat.lt_of_mul_lt_mul_right (a := m) (by rw [← ha, ← h1]; exact Nat.mul_lt_mul_of_pos_right hl hA0)
          rw [if_pos hl, if_neg (by omega)]
          refine roundW_rnd (by omega) (by omega) hQ ?_ ?_
          · intro _
            rw [hA, hm, Nat.mul_sub_right_distrib, Nat.mul_sub_right_distrib, ha, h1]
          · intro h; cases h
        · have h2 : Y < X := Nat.lt_of_mul_lt_mul_right (a := m) (by rw [← ha, ← h1]; exact Nat.mul_lt_mul_of_pos_right (by omega) hA0)
          rw [if_neg hl, if_pos h2]
          refine roundW_rnd (by omega) (by omega) hQ ?_ ?_
          · intro _
            rw [hA, hm, Nat.mul_sub_right_distrib, Nat.mul_sub_right_distrib, ha, h1]
          · intro h; cases h
    · have h1 := b3.1 rfl
      have hb64 := b4 rfl
      have h3 : (b + 1) * A ≤ a * A := Nat.mul_le_mul_right _ (by omega)
      rw [Nat.add_mul, Nat.one_mul] at h3
      have h2 : Y < X := Nat.lt_of_mul_lt_mul_right (a := m) (by rw [← ha]; omega)
      rw [if_pos rfl, if_neg (by omega), if_pos h2]
      refine roundW_rnd (by omega) (by omega) hQ ?_ ?_
      · intro h; cases h
      · intro _
        have e1 : (a - b - 1) * A = a * A - b * A - A := by rw [Nat.mul_sub_right_distrib, Nat.mul_sub_right_distrib, Nat.one_mul]
        have e2 : (a - b - 1 + 1) * A = a * A - b * A := by rw [show a - b - 1 + 1 = a - b from by omega, Nat.mul_sub_right_distrib]
        rw [hA, hm, e1, e2, Nat.mul_sub_right_distrib X Y m, ← ha]
        exact ⟨by omega, by omega, by omega⟩
theorem sumF_law {way : Int} {pn cn : Bool} {pe ce : Int} {ps cs i j : Nat} (hps : 0 < ps) (hcs : 0 < cs) (hps64 : ps < 18446744073709551616) (hcs64 : cs < 18446744073709551616) (hi : pe + 298 = (i : Int)) (hj : ce + 298 = (j : Int)) :
    sumF way pn pe ps cn ce cs = sumW way pn cn (ps * two i) (cs * two j) := by
  unfold sumF
  by_cases h : pe + (blen ps : Int) < ce + (blen cs : Int)
  · rw [if_pos h, sumC_law hcs hps hcs64 hps64 hj hi (by omega), sumW_comm]
  · rw [if_neg h, sumC_law hps hcs hps64 hcs64 hi hj (by omega)]
end Go.Proofs.Ytegeadkilolngaa
