/- The document's whole numbers as what they are worth: the contracts once more; the contract of least. -/
import Derived.Test.YtanccobllehnaaaNatY
namespace Go.Proofs.Ytanccobllehnaaa
open Go.RowKit

/-- a whole number that is read, of n words, worth v -/
def NV (w : World) (B : Nat) (A : Option Addr) (n v : Nat) : Prop := ∃ l, n = l.length ∧ WR w B A l ∧ Wd l ∧ Trim l ∧ wv l = v ∧ B ≤ w.heap.size
/-- a whole number that is answered -/
def NR (w : World) (v : Nat) (e : Ending) (w' : World) : Prop := ∃ A k c, e = .returned (.slice A k c) ∧ NV w' w'.heap.size A k v ∧ Below w.heap.size w w'
theorem NO.nr {w w' : World} {v : Nat} {e : Ending} (h : NO w v e w') : NR w v e w' := by
  obtain ⟨A, k, c, l, h1, h2, h3, h4, h5, h6, h7, h8, h9⟩ := h
  exact ⟨A, k, c, h1, ⟨l, h2.out, h5, h6, h7, h8, Nat.le_refl _⟩, h9⟩
theorem NV.below {w w' : World} {B : Nat} {A : Option Addr} {n v : Nat} (h : NV w B A n v) (hb : Below w.heap.size w w') : NV w' B A n v := by
  obtain ⟨l, h1, h2, h3, h4, h5, h6⟩ := h
  exact ⟨l, h1, h2.below (hb.mono h6), h3, h4, h5, Nat.le_trans h6 hb.size⟩
theorem NV.len {w : World} {B : Nat} {A : Option Addr} {n v : Nat} (h : NV w B A n v) (hv : v < two 30000) : n ≤ 1000000 := by
  obtain ⟨l, h1, h2, h3, h4, h5, h6⟩ := h
  by_cases hl : n ≤ 1000000
  · exact hl
  · have hn : l ≠ [] := by rintro rfl; simp at h1; omega
    have h7 := trim_pos h4 hn
    have h8 : bs (l.length - 1) ≤ wv l := h7
    rw [bs_two, h5] at h8
    have h9 := two_le (show 30000 ≤ 32 * (l.length - 1) by omega)
    exact absurd (Nat.le_trans h9 h8) (by omega)
theorem nv_zero {w : World} {B : Nat} {A : Option Addr} {n v : Nat} (h : NV w B A n v) : v = 0 ↔ n = 0 := by
  obtain ⟨l, h1, h2, h3, h4, h5, h6⟩ := h
  rw [← h5, trim_nil h4, h1]
  simp
theorem NR.after {w w1 w' : World} {v : Nat} {e : Ending} (hb : Below w.heap.size w w1) (h : NR w1 v e w') : NR w v e w' := by
  obtain ⟨A, k, c, h1, h2, h3⟩ := h
  exact ⟨A, k, c, h1, h2, hb.trans (h3.mono hb.size)⟩
section
variable {A A' : Option Addr} {n n' cap cap' B B' x y v : Nat} {w : World}
theorem of_nv (n : Nat) (w : World) (h : Hid (n < 18446744073709551616)) : Calls Try.prog 52 #[.int .u64 (n : Int)] w (NR w n) := (of_any n w h).mono fun _ _ h => h.nr
theorem amount_nv (m : Nat) (w : World) (h : m < 4294967296) : Calls Try.prog 50 #[.int .u32 (m : Int)] w (NR w (amt m)) := (amount_any m w h).mono fun _ _ h => h.nr
theorem twice_nv {k : Nat} (ha : NV w B A n x) (hx : x < two 30000) (hk : k ≤ 1000000) (hv : Hid (two k * x = v)) :
    Calls Try.prog 51 #[.slice A n cap, .int .i64 (k : Int)] w (NR w v) := by
  have hl := ha.len hx
  obtain ⟨l, h1, h2, h3, h4, h5, h6⟩ := ha
  have := twice_any (cap := cap) (Lib.hid h1) hl hk h6 h2 (Lib.hid h3)
  rw [h5, hv.out] at this
  exact this.mono fun _ _ h => h.nr
theorem plus_nv (ha : NV w B A n x) (hb : NV w B' A' n' y) (hx : x < two 30000) (hy : y < two 30000) (hv : Hid (x + y = v)) :
    Calls Try.prog 54 #[.slice A n cap, .slice A' n' cap'] w (NR w v) := by
  have hl := ha.len hx
  have hl' := hb.len hy
  obtain ⟨l, h1, h2, h3, h4, h5, h6⟩ := ha
  obtain ⟨m, g1, g2, g3, g4, g5, g6⟩ := hb
  have := plus_any (cap := cap) (cap' := cap') (Lib.hid h1) (Lib.hid g1) hl hl' h6 g6 h2 g2 (Lib.hid h3) (Lib.hid g3)
  rw [h5, g5, hv.out] at this
  exact this.mono fun _ _ h => h.nr
theorem times_nv (ha : NV w B A n x) (hb : NV w B' A' n' y) (hx : x < two 30000) (hy : y < two 30000) (hv : Hid (x * y = v)) :
    Calls Try.prog 49 #[.slice A n cap, .slice A' n' cap'] w (NR w v) := by
  have hl := ha.len hx
  have hl' := hb.len hy
  obtain ⟨l, h1, h2, h3, h4, h5, h6⟩ := ha
  obtain ⟨m, g1, g2, g3, g4, g5, g6⟩ := hb
  have := times_any (cap := cap) (cap' := cap') (Lib.hid h1) (Lib.hid g1) hl hl' h6 g6 h2 g2 (Lib.hid h3) (Lib.hid g3)
  rw [h5, g5, hv.out] at this
  exact this.mono fun _ _ h => h.nr
theorem compare_nv {d : Int} (ha : NV w B A n x) (hb : NV w B' A' n' y) (hx : x < two 30000) (hy : y < two 30000) (hv : Hid (cmpV x y = d)) :
    Calls Try.prog 55 #[.slice A n cap, .slice A' n' cap'] w fun e w' => e = .returned (.int .i64 d) ∧ ∃ m, w' = w.drewN m := by
  have hl := ha.len hx
  have hl' := hb.len hy
  obtain ⟨l, h1, h2, h3, h4, h5, h6⟩ := ha
  obtain ⟨m, g1, g2, g3, g4, g5, g6⟩ := hb
  have := compare_any (cap := cap) (cap' := cap') (Lib.hid h1) (Lib.hid g1) (by omega) (by omega) h2 g2 h3 g3 h4 g4
  rw [h5, g5, hv.out] at this
  exact this
end
theorem below_of_drew {B : Nat} {w w' : World} (h : Below B w w') (n : Nat) : Below B w (w'.drewN n) := below_drewN h n
theorem amt_le {m : Nat} (h : m ≤ 2139095040) : amt m ≤ two 277 := by
  have := amt_mono h
  rw [amt_inf, show 8388608 * two 254 = two 277 from by rw [← two_23, ← two_add]] at this
  exact this
theorem amt_big {m : Nat} (h : m ≤ 2139095040) : amt m < two 30000 := Nat.lt_of_le_of_lt (amt_le h) (Nat.lt_of_lt_of_le (show two 277 < two 278 by have := two_pos 277; have h := two_succ 277; show two 277 < two (277 + 1); omega) (two_le (by omega)))
theorem amt_q {m q : Nat} (h : m ≤ 2139095040) (hq : q < two 10000) : amt m * q < two 30000 := by
  have h1 : amt m * q ≤ two 277 * two 10000 := Nat.mul_le_mul (amt_le h) (by omega)
  rw [← two_add] at h1
  have h2 := two_le (show 277 + 10000 + 1 ≤ 30000 by omega)
  have h3 := two_pos (277 + 10000)
  rw [two_succ] at h2
  omega
theorem ten_thirty {q : Nat} (hq : q < two 10000) : q < two 30000 := Nat.lt_of_lt_of_le hq (two_le (by omega))
def LRel (p q : Nat) (w : World) (lo hi : Value) (wr : World) : Prop := ∃ l h : Nat, lo = .int .u32 (l : Int) ∧ hi = .int .u32 (h : Int) ∧ l < h ∧ h ≤ 2139095041 ∧ Hid (amt l * q ≤ p) ∧ Hid (h < 2139095041 → p < amt h * q) ∧ Below w.heap.size w wr
theorem half_cast32 {l h : Nat} (hl : l < h) : (l : Int) + ((h : Int) - (l : Int)) / 2 = ((l + (h - l) / 2 : Nat) : Int) := by omega

set_option maxRecDepth 100000 in
set_option maxHeartbeats 1600000 in
theorem least_any {A A' : Option Addr} {n n' cap cap' B B' p q : Nat} {w : World} (ha : NV w B A n p) (hb : NV w B' A' n' q) (hp : Hid (p < two 10000)) (hq : Hid (q < two 10000)) :
    Calls Try.prog 80 #[.slice A n cap, .slice A' n' cap'] w (BR w (cut p q)) := by
  go_enter Try.func80, Try.ntmps80
  go_wp2
  go_loopw [5, 6] (fun lo hi wr => LRel p q w lo hi wr) (fun lo hi _ => (intOf hi - intOf lo).toNat)
  case atStart => exact ⟨0, 2139095041, rfl, rfl, by omega, by omega, Lib.hid (by rw [amt_zero]; omega), Lib.hid (fun h => by omega), Below.refl _ _⟩
  case round =>
    obtain ⟨l, h, rfl, rfl, hlh, hh, HL, HH, hbel⟩ := hrel
    have hsz := hbel.size
    by_cases h1 : h = l + 1
    · subst h1
      have HF : Hid (cut p q = l) := Lib.hid (IsCut.eq ⟨by omega, HL.out, fun hlt => HH.out (by omega)⟩)
      have hc : ¬ (1 : Int) < ((l + 1 : Nat) : Int) - (l : Int) := by omega
      go_wp2
      go_ret
      exact ⟨by rw [HF.out]; rfl, hbel⟩
    · obtain ⟨m, hm⟩ : ∃ m, l + (h - l) / 2 = m := ⟨_, rfl⟩
      have hm1 : l < m := by omega
      have hm2 : m < h := by omega
      have hcast : (l : Int) + ((h : Int) - (l : Int)) / 2 = (m : Int) := by omega
      have hc : (1 : Int) < (h : Int) - (l : Int) := by omega
      clear hm
      obtain ⟨d, hd⟩ : ∃ d, cmpV (amt m * q) p = d := ⟨_, rfl⟩
      have HD := Lib.hid hd
      clear hd
      by_cases hle : amt m * q ≤ p
      · have HLE := Lib.hid hle
        have hd0 : d ≤ 0 := by rw [← HD.out]; unfold cmpV; split; · omega
                               · split <;> omega
        clear hle
        go_wp2_with fail
        refine (amount_nv m _ (by omega)).mono ?_
        rintro e w1 ⟨A1, k1, c1, rfl, hv1, hb1⟩
        go_wp2_with fail
        have hbq := (hb.below hbel).below hb1
        refine (times_nv hv1 hbq (amt_big (by omega)) (ten_thirty hq.out) (Lib.hid rfl)).mono ?_
        rintro e w2 ⟨A2, k2, c2, rfl, hv2, hb2⟩
        go_wp2_with fail
        have hap := ((ha.below hbel).below hb1).below hb2
        refine (compare_nv hv2 hap (amt_q (by omega) hq.out) (ten_thirty hp.out) HD).mono ?_
        rintro e w3 ⟨rfl, nd, rfl⟩
        go_wp2
        go_roundw
        case rel => exact ⟨m, h, rfl, rfl, hm2, hh, HLE, HH, below_drewN ((hbel.trans (hb1.mono hbel.size)).trans (hb2.mono (by have := hb1.size; have := hbel.size; omega))) nd⟩
        case measure => simp [intOf]; omega
      · have HLE := Lib.hid hle
        have hd0 : ¬ d ≤ 0 := by rw [← HD.out, cmpV_gt (by omega)]; decide
        clear hle
        go_wp2_with fail
        refine (amount_nv m _ (by omega)).mono ?_
        rintro e w1 ⟨A1, k1, c1, rfl, hv1, hb1⟩
        go_wp2_with fail
        have hbq := (hb.below hbel).below hb1
        refine (times_nv hv1 hbq (amt_big (by omega)) (ten_thirty hq.out) (Lib.hid rfl)).mono ?_
        rintro e w2 ⟨A2, k2, c2, rfl, hv2, hb2⟩
        go_wp2_with fail
        have hap := ((ha.below hbel).below hb1).below hb2
        refine (compare_nv hv2 hap (amt_q (by omega) hq.out) (ten_thirty hp.out) HD).mono ?_
        rintro e w3 ⟨rfl, nd, rfl⟩
        go_wp2
        go_roundw
        case rel => exact ⟨l, m, rfl, rfl, hm1, by omega, HL, Lib.hid (fun _ => by have := HLE.out; omega), below_drewN ((hbel.trans (hb1.mono hbel.size)).trans (hb2.mono (by have := hb1.size; have := hbel.size; omega))) nd⟩
        case measure => simp [intOf]; omega
end Go.Proofs.Ytanccobllehnaaa
