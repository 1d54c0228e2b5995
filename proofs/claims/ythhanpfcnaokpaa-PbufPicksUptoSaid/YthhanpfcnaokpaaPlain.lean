/- Plain functions of layer 6: numbers out of bytes, varints; no program in sight. -/
import Derived.Laws.Bits64b
import Derived.Laws.BitsLemmas
namespace Go.Proofs.Ythhanpfcnaokpaa

/-- the number of some bytes, the least one first -/
def lit8 : List UInt8 → Nat
  | [] => 0
  | c :: l => c.toNat + 256 * lit8 l

theorem lit8_lt (l : List UInt8) : lit8 l < 256 ^ l.length := by
  induction l with
  | nil => simp [lit8]
  | cons c l ih =>
    have := c.toNat_lt
    simp only [lit8, List.length_cons, Nat.pow_succ]
    omega

theorem lit8_append (a b : List UInt8) : lit8 (a ++ b) = lit8 a + 256 ^ a.length * lit8 b := by
  induction a with
  | nil => simp [lit8]
  | cons c l ih =>
    simp only [List.cons_append, lit8, ih, List.length_cons, Nat.pow_succ]
    rw [Nat.mul_add, Nat.mul_comm (256 ^ l.length) 256, Nat.mul_assoc]; omega

theorem lit8_drop (l : List UInt8) (k : Nat) (h : k < l.length) : lit8 (l.drop k) = l[k].toNat + 256 * lit8 (l.drop (k + 1)) := by
  rw [List.drop_eq_getElem_cons h]; rfl

theorem lit8_take (l : List UInt8) (k : Nat) (h : k < l.length) : lit8 (l.take (k + 1)) = lit8 (l.take k) + 256 ^ k * l[k].toNat := by
  rw [List.take_succ_eq_append_getElem h, lit8_append, List.length_take, Nat.min_eq_left (by omega)]; simp [lit8]

theorem or_shift (x c i : Nat) (hi : i ≤ 64) (hx : x < 2 ^ i) (hc : c * 2 ^ i < 2 ^ 64) : bits .or .u64 (x : Int) (IntKind.u64.wrap ((c : Int) * 2 ^ i)) = ((x + c * 2 ^ i : Nat) : Int) := by
  have e : IntKind.u64.wrap ((c : Int) * 2 ^ i) = ((c * 2 ^ i : Nat) : Int) := by
    have : ((c : Int) * 2 ^ i) = ((c * 2 ^ i : Nat) : Int) := by rw [Int.natCast_mul, Int.natCast_pow]; rfl
    rw [this, IntKind.wrap_u64]; omega
  have h64 : 2 ^ i ≤ 2 ^ 64 := Nat.pow_le_pow_right (by decide) hi
  rw [e, bits_or_u64_nat _ _ (by omega) (by omega)]
  congr 1
  rw [Nat.or_comm, Nat.mul_comm c, ← Nat.two_pow_add_eq_or_of_lt hx]; omega

theorem pow256 (k : Nat) : 256 ^ k = 2 ^ (8 * k) := by rw [Nat.pow_mul]
theorem pow128 (k : Nat) : 128 ^ k = 2 ^ (7 * k) := by rw [Nat.pow_mul]

theorem lit8_join (l : List UInt8) (k : Nat) (h : k < l.length) (hl : l.length ≤ 8) :
    bits .or .u64 (lit8 (l.take k) : Int) (IntKind.u64.wrap ((l[k].toNat : Int) * 2 ^ (8 * k))) = ((lit8 (l.take k) + 256 ^ k * l[k].toNat : Nat) : Int) := by
  have h1 := lit8_lt (l.take k)
  rw [List.length_take, Nat.min_eq_left (by omega), pow256] at h1
  have h2 := (l[k]).toNat_lt
  have h3 : 2 ^ (8 * k) * 256 ≤ 2 ^ 64 := by
    rw [show (256 : Nat) = 2 ^ 8 from rfl, ← Nat.pow_add]; exact Nat.pow_le_pow_right (by decide) (by omega)
  have h4 : l[k].toNat * 2 ^ (8 * k) < 256 * 2 ^ (8 * k) := Nat.mul_lt_mul_of_pos_right h2 (Nat.two_pow_pos _)
  rw [or_shift _ _ _ (by omega) h1 (by omega), pow256, Nat.mul_comm]

theorem pow256_le {n : Nat} (h : n ≤ 8) : 256 ^ n ≤ 18446744073709551616 := by
  have := Nat.pow_le_pow_right (n := 256) (by decide) h; simpa using this

theorem lit8_lt64 (l : List UInt8) (h : l.length ≤ 8) : lit8 l < 18446744073709551616 :=
  Nat.lt_of_lt_of_le (lit8_lt l) (pow256_le h)

/-! ### varints -/
/-- the varint at the head of some bytes, i of whose bytes have been read: its number, its length -/
def rdv : Nat → List UInt8 → Option (Nat × Nat)
  | _, [] => none
  | i, c :: l => if i = 9 ∧ 1 < c.toNat then none else if c.toNat < 128 then some (c.toNat, 1) else (rdv (i + 1) l).map fun p => (c.toNat - 128 + 128 * p.1, p.2 + 1)

/-- what ReadVarint answers -/
def rvar (l : List UInt8) (p : Int) : Nat × Int × Int :=
  if p < 0 ∨ (l.length : Int) < p then (0, 0, 2) else match rdv 0 (l.drop p.toNat) with
    | none => (0, 0, 6)
    | some q => (q.1, p + q.2, 0)

theorem rvar_out {l : List UInt8} {p : Int} (h : p < 0 ∨ (l.length : Int) < p) : rvar l p = (0, 0, 2) := by unfold rvar; rw [if_pos h]
theorem rvar_none {l : List UInt8} {q : Nat} (hq : q ≤ l.length) (h : rdv 0 (l.drop q) = none) : rvar l q = (0, 0, 6) := by
  unfold rvar; rw [if_neg (by omega), Int.toNat_natCast, h]
theorem rvar_some {l : List UInt8} {q x n : Nat} (hq : q ≤ l.length) (h : rdv 0 (l.drop q) = some (x, n)) : rvar l q = (x, (q : Int) + n, 0) := by
  unfold rvar; rw [if_neg (by omega), Int.toNat_natCast, h]

/-- what a byte counts at place k: in 64 bits, behind the tenth one 0 -/
def unit (k : Nat) : Nat := 128 ^ k % 18446744073709551616

/-- k bytes have been read, which make up x, and more follow -/
def RV (d : List UInt8) (k x : Nat) : Prop := k ≤ d.length ∧ k ≤ 9 ∧ x < 128 ^ k ∧ rdv 0 d = (rdv k (d.drop k)).map fun p => (x + 128 ^ k * p.1, k + p.2)

theorem RV.start (d : List UInt8) : RV d 0 0 := by
  refine ⟨Nat.zero_le _, by omega, by simp, ?_⟩
  cases h : rdv 0 d <;> simp [h]

theorem RV.none_ {d : List UInt8} {k x : Nat} (h : RV d k x) (hk : k = d.length) : rdv 0 d = none := by
  rw [h.2.2.2, List.drop_of_length_le (by omega)]; rfl

theorem RV.bad {d : List UInt8} {k x : Nat} (h : RV d k x) (hk : k < d.length) (h9 : k = 9) (hc : 1 < d[k].toNat) : rdv 0 d = none := by
  rw [h.2.2.2, List.drop_eq_getElem_cons hk]; subst h9; simp [rdv, hc]

theorem RV.last {d : List UInt8} {k x : Nat} (h : RV d k x) (hk : k < d.length) (h9 : ¬ (k = 9 ∧ 1 < d[k].toNat)) (hc : d[k].toNat < 128) : rdv 0 d = some (x + 128 ^ k * d[k].toNat, k + 1) := by
  rw [h.2.2.2, List.drop_eq_getElem_cons hk]; simp [rdv, h9, hc]

theorem RV.more {d : List UInt8} {k x : Nat} (h : RV d k x) (hk : k < d.length) (h9 : ¬ (k = 9 ∧ 1 < d[k].toNat)) (hc : ¬ d[k].toNat < 128) : RV d (k + 1) (x + 128 ^ k * (d[k].toNat - 128)) := by
  have hlt := d[k].toNat_lt
  refine ⟨hk, by have := h.2.1; omega, ?_, ?_⟩
  · have h1 : 128 ^ k * (d[k].toNat - 128) ≤ 128 ^ k * 127 := Nat.mul_le_mul_left _ (by omega)
    have := h.2.2.1
    rw [Nat.pow_succ]; omega
  · rw [h.2.2.2, List.drop_eq_getElem_cons hk]
    simp only [rdv, h9, hc, if_false, Option.map_map]
    refine congrArg (fun f => Option.map f _) (funext fun p => ?_)
    simp only [Function.comp, Prod.mk.injEq, Nat.mul_add, Nat.pow_succ, Nat.mul_assoc]
    omega

/-- what the two ways to join a byte to the number come to -/
theorem RV.num {d : List UInt8} {k x : Nat} (h : RV d k x) (hk : k < d.length) (h9 : ¬ (k = 9 ∧ 1 < d[k].toNat)) : x + 128 ^ k * (d[k].toNat % 128) < 18446744073709551616 := by
  have hlt := d[k].toNat_lt
  have hx := h.2.2.1
  by_cases h9' : k = 9
  · have : d[k].toNat ≤ 1 := by omega
    have h2 : 128 ^ k * (d[k].toNat % 128) ≤ 128 ^ k * 1 := Nat.mul_le_mul_left _ (by omega)
    have h3 : 128 ^ k = 9223372036854775808 := by rw [h9']
    generalize 128 ^ k = y at *
    generalize y * (d[k].toNat % 128) = z at *
    omega
  · have h1 : 128 ^ k * (d[k].toNat % 128) ≤ 128 ^ k * 127 := Nat.mul_le_mul_left _ (by omega)
    have h3 : 128 ^ (k + 1) ≤ 128 ^ 9 := Nat.pow_le_pow_right (by decide) (by have := h.2.1; omega)
    rw [Nat.pow_succ] at h3
    have h4 : 128 ^ 9 = 9223372036854775808 := by decide
    omega

theorem u8_and127 (c : Nat) (h : c < 256) : bits .and .u8 (c : Int) 127 = (c : Int) % 128 := by
  have := bits_mask .u8 8 (by decide) wraps_u8 7 (by decide) (c : Int) (by omega) (by omega)
  rw [show (2 : Int) ^ 7 - 1 = 127 from rfl, show (2 : Int) ^ 7 = 128 from rfl] at this
  rw [this]

theorem RV.join {d : List UInt8} {k x : Nat} (h : RV d k x) (hk : k < d.length) (h9 : ¬ (k = 9 ∧ 1 < d[k].toNat)) :
    bits .or .u64 (x : Int) (IntKind.u64.wrap ((d[k].toNat : Int) % 128 * 2 ^ (7 * k))) = ((x + 128 ^ k * (d[k].toNat % 128) : Nat) : Int) := by
  have hn := h.num hk h9
  have hx := h.2.2.1
  have hk9 := h.2.1
  rw [pow128] at hn hx
  rw [show ((d[k].toNat : Int) % 128) = ((d[k].toNat % 128 : Nat) : Int) from rfl, or_shift _ _ _ (by omega) hx (by rw [Nat.mul_comm]; omega), pow128, Nat.mul_comm]

theorem wrap_two63 (c : Nat) (h : c < 128) (h1 : c ≤ 1) : IntKind.u64.wrap ((c : Int) % 128 * 2 ^ (7 * 9)) = (c : Int) % 128 * 9223372036854775808 := by
  rw [show (2 : Int) ^ (7 * 9) = 9223372036854775808 from rfl, IntKind.wrap_u64]; omega

theorem unit_succ (k : Nat) : IntKind.u64.wrap ((unit k : Int) * 128) = (unit (k + 1) : Int) := by
  rw [IntKind.wrap_u64]; unfold unit
  have : ((128 ^ k % 18446744073709551616 * 128) % 18446744073709551616 : Nat) = 128 ^ (k + 1) % 18446744073709551616 := by rw [Nat.pow_succ, Nat.mod_mul_mod]
  rw [← this]; rfl

theorem unit_le (k : Nat) (h : k ≤ 9) : unit k = 128 ^ k := by
  refine Nat.mod_eq_of_lt ?_
  have h1 : 128 ^ k ≤ 128 ^ 9 := Nat.pow_le_pow_right (by decide) h
  have h2 : 128 ^ 9 = 9223372036854775808 := by decide
  omega

theorem RV.rjoin {d : List UInt8} {k x : Nat} (h : RV d k x) (hk : k < d.length) (h9 : ¬ (k = 9 ∧ 1 < d[k].toNat)) :
    IntKind.u64.wrap ((x : Int) + IntKind.u64.wrap ((unit k : Int) * ((d[k].toNat : Int) % 128))) = ((x + 128 ^ k * (d[k].toNat % 128) : Nat) : Int) := by
  have hn := h.num hk h9
  rw [unit_le k h.2.1, show ((128 ^ k : Nat) : Int) * ((d[k].toNat : Int) % 128) = ((128 ^ k * (d[k].toNat % 128) : Nat) : Int) by rw [Int.natCast_mul]; rfl]
  rw [IntKind.wrap_u64, IntKind.wrap_u64]
  generalize 128 ^ k * (d[k].toNat % 128) = y at *
  omega

/-- the shortest form of a number, with room for f bytes more -/
def vif : Nat → Nat → List UInt8
  | 0, x => [UInt8.ofNat x]
  | f + 1, x => if x < 128 then [UInt8.ofNat x] else UInt8.ofNat (x % 128 + 128) :: vif f (x / 128)
/-- the shortest form of a number below 2^64 -/
def vi (x : Nat) : List UInt8 := vif 9 x


/-- k bytes of x's shortest form, o, have been written; y is left -/
def VI (x k y : Nat) (o : List UInt8) : Prop := k ≤ 9 ∧ y * 128 ^ k < 18446744073709551616 ∧ vi x = o ++ vif (9 - k) y ∧ o.length = k
theorem VI.start (x : Nat) (h : x < 18446744073709551616) : VI x 0 x [] := ⟨by omega, by omega, rfl, rfl⟩
theorem VI.lt {x k y : Nat} {o : List UInt8} (h : VI x k y o) (hy : ¬ y < 128) : k < 9 := by
  obtain ⟨h1, h2, -, -⟩ := h
  rcases Nat.lt_or_ge k 9 with h9 | h9
  · exact h9
  · have hk : k = 9 := by omega
    subst hk
    have h3 : 128 ^ 9 = 9223372036854775808 := by decide
    rw [h3] at h2; omega
theorem VI.le {x k y : Nat} {o : List UInt8} (h : VI x k y o) : y < 18446744073709551616 := Nat.lt_of_le_of_lt (Nat.le_mul_of_pos_right _ (Nat.pow_pos (by decide))) h.2.1
theorem wrap_div (y n : Nat) (h : y < 18446744073709551616) : IntKind.u64.wrap ((y : Int) / (n : Int)) = ((y / n : Nat) : Int) := by
  have h1 := Nat.div_le_self y n
  have h2 : ((y : Int) / (n : Int)) = ((y / n : Nat) : Int) := rfl
  rw [IntKind.wrap_u64, h2]
  generalize y / n = z at *
  omega
theorem wrap_quo (y : Nat) (n : Nat) (h : y < 18446744073709551616) : IntKind.u64.wrap ((y : Int) / (n : Int)) = (y : Int) / (n : Int) := wrap_div y n h
theorem wrap_quo8 (y : Nat) (h : y < 18446744073709551616) : IntKind.u64.wrap ((y : Int) / 8) = (y : Int) / 8 := wrap_div y 8 h
theorem VI.more {x k y : Nat} {o : List UInt8} (h : VI x k y o) (hy : ¬ y < 128) : VI x (k + 1) (y / 128) (o ++ [UInt8.ofNat (y % 128 + 128)]) := by
  have h9 := h.lt hy
  obtain ⟨h1, h2, h3, h4⟩ := h
  refine ⟨by omega, ?_, ?_, by simp [h4]⟩
  · have : y / 128 * 128 ≤ y := Nat.div_mul_le_self y 128
    have h5 : y / 128 * 128 * 128 ^ k ≤ y * 128 ^ k := Nat.mul_le_mul_right _ this
    rw [Nat.pow_succ, Nat.mul_comm (128 ^ k), ← Nat.mul_assoc]; omega
  · rw [h3, show 9 - k = (9 - (k + 1)) + 1 by omega]
    simp [vif, hy]
theorem VI.last {x k y : Nat} {o : List UInt8} (h : VI x k y o) (hy : y < 128) : vi x = o ++ [UInt8.ofNat y] := by
  rw [h.2.2.1]
  cases 9 - k <;> simp [vif, hy]

theorem u8_or128' (y : Nat) : bits .or .u8 ((y : Int) % 256) 128 = ((UInt8.ofNat (y % 128 + 128)).toNat : Int) := by
  have h1 : bits .or .u8 ((y % 256 : Nat) : Int) ((128 : Nat) : Int) = ((y % 256 ||| 128 : Nat) : Int) := (bits_nat .u8 8 (by decide) wraps_u8 (y % 256) 128 (by omega) (by omega)).2
  have h2 : y % 256 ||| 128 = y % 128 + 128 := by
    have e : y % 256 = y % 128 + 128 * (y / 128 % 2) := by omega
    have h3 : (128 * 1) ||| (y % 128) = 128 * 1 + y % 128 := by
      have := Nat.two_pow_add_eq_or_of_lt (i := 7) (b := y % 128) (by omega) 1
      simpa using this.symm
    rcases (by omega : y / 128 % 2 = 0 ∨ y / 128 % 2 = 1) with h | h
    · rw [e, h, Nat.mul_zero, Nat.add_zero, Nat.or_comm]; simpa [Nat.add_comm] using h3
    · have h4 := Nat.two_pow_add_eq_or_of_lt (i := 7) (b := y % 128) (by omega) 1
      have e2 : y % 128 + 128 * 1 = 128 ||| (y % 128) := by rw [Nat.add_comm]; simpa using h4
      rw [e, h, e2, Nat.or_comm, ← Nat.or_assoc, Nat.or_self, ← e2]
  have h5 : (UInt8.ofNat (y % 128 + 128)).toNat = y % 128 + 128 := by simp; omega
  rw [h5, ← h2, ← h1]; rfl
theorem u8_add128 (y : Nat) : ((y : Int) % 128 + 128) % 256 = ((UInt8.ofNat (y % 128 + 128)).toNat : Int) := by
  have h5 : (UInt8.ofNat (y % 128 + 128)).toNat = y % 128 + 128 := by simp; omega
  rw [h5]; omega
theorem u8_of (y : Nat) (h : y < 128) : (y : Int) = ((UInt8.ofNat y).toNat : Int) := by
  have h5 : (UInt8.ofNat y).toNat = y := by simp; omega
  rw [h5]

/-- a number as n bytes, the least one first -/
def fix8 (x n : Nat) : List UInt8 := (List.range n).map fun i => UInt8.ofNat (x / 256 ^ i)
theorem fix8_succ (x n : Nat) : fix8 x (n + 1) = fix8 x n ++ [UInt8.ofNat (x / 256 ^ n)] := by simp [fix8, List.range_succ]
theorem fix8_len (x n : Nat) : (fix8 x n).length = n := by simp [fix8]
theorem u8_add128' (y : Nat) : (y : Int) % 128 + 128 = ((UInt8.ofNat (y % 128 + 128)).toNat : Int) := by
  have h5 : (UInt8.ofNat (y % 128 + 128)).toNat = y % 128 + 128 := by simp; omega
  rw [h5]; rfl
theorem u8_shr (x k : Nat) : ((x : Int) / 2 ^ (8 * k)) % 256 = ((UInt8.ofNat (x / 256 ^ k)).toNat : Int) := by
  rw [pow256]; simp
theorem fix8_div (x k : Nat) : x / 256 ^ k / 256 = x / 256 ^ (k + 1) := by rw [Nat.div_div_eq_div_mul, Nat.pow_succ]
theorem u8_mod (y : Nat) : (y : Int) % 256 = ((UInt8.ofNat y).toNat : Int) := by simp
theorem u8_wrap (y : Nat) : (y : Int) % 256 = ((UInt8.ofNat y).toNat : Int) := by simp

/-! ### fields -/
/-- what stands behind a tag: number, bytes, the place behind -/
def part (l : List UInt8) (p : Nat) (wire : Nat) : Option (Nat × List UInt8 × Nat) :=
  if wire = 0 then (rdv 0 (l.drop p)).map fun q => (q.1, [], p + q.2)
  else if wire = 1 then (if p + 8 ≤ l.length then some (lit8 ((l.drop p).take 8), [], p + 8) else none)
  else if wire = 5 then (if p + 4 ≤ l.length then some (lit8 ((l.drop p).take 4), [], p + 4) else none)
  else if wire = 2 then (rdv 0 (l.drop p)).bind fun q => if p + q.2 + q.1 ≤ l.length then some (0, (l.drop (p + q.2)).take q.1, p + q.2 + q.1) else none
  else none

theorem rdv_len (l : List UInt8) : ∀ i x n, rdv i l = some (x, n) → 1 ≤ n ∧ n ≤ l.length := by
  induction l with
  | nil => intro i x n h; simp [rdv] at h
  | cons c l ih =>
    intro i x n h
    unfold rdv at h
    split at h
    · cases h
    · split at h
      · simp only [Option.some.injEq, Prod.mk.injEq] at h
        simp; omega
      · simp only [Option.map_eq_some_iff, Prod.mk.injEq] at h
        obtain ⟨q, hq, h1, h2⟩ := h
        have := ih _ _ _ hq
        simp; omega

theorem rdv_lt (l : List UInt8) : ∀ i x n, i ≤ 9 → rdv i l = some (x, n) → x * 128 ^ i < 18446744073709551616 := by
  induction l with
  | nil => intro i x n hi h; simp [rdv] at h
  | cons c l ih =>
    intro i x n hi h
    unfold rdv at h
    split at h
    · cases h
    · rename_i h9
      split at h
      · simp only [Option.some.injEq, Prod.mk.injEq] at h
        obtain ⟨rfl, rfl⟩ := h
        by_cases e : i = 9
        · subst e
          have h3 : 128 ^ 9 = 9223372036854775808 := by decide
          rw [h3]; omega
        · have h3 : 128 ^ i ≤ 128 ^ 8 := Nat.pow_le_pow_right (by decide) (by omega)
          have h4 : c.toNat * 128 ^ i ≤ 128 * 128 ^ i := Nat.mul_le_mul_right _ (by omega)
          have h5 : 128 ^ 8 = 72057594037927936 := by decide
          omega
      · simp only [Option.map_eq_some_iff, Prod.mk.injEq] at h
        obtain ⟨q, hq, h1, h2⟩ := h
        have hc := c.toNat_lt
        by_cases e : i = 9
        · omega
        · have := ih (i + 1) q.1 q.2 (by omega) hq
          have h6 : (c.toNat - 128) * 128 ^ i ≤ 127 * 128 ^ i := Nat.mul_le_mul_right _ (by omega)
          have h7 : 0 < 128 ^ i := Nat.pow_pos (by decide)
          rw [Nat.pow_succ, Nat.mul_comm (128 ^ i), ← Nat.mul_assoc] at this
          rw [← h1, Nat.add_mul, Nat.mul_comm 128 q.1]
          have h8 : 18446744073709551616 = 128 ^ i * (18446744073709551616 / 128 ^ i) := by
            have : 128 ^ i * 128 ^ (9 - i) * 2 = 18446744073709551616 := by rw [← Nat.pow_add, show i + (9 - i) = 9 by omega]
            have h9 : 18446744073709551616 / 128 ^ i = 128 ^ (9 - i) * 2 := by
              rw [← this, Nat.mul_assoc, Nat.mul_div_cancel_left _ h7]
            rw [h9, ← Nat.mul_assoc, this]
          have h10 : q.1 * 128 * 128 ^ i + 128 * 128 ^ i ≤ 18446744073709551616 := by
            have hd : 128 * 128 ^ i ∣ 18446744073709551616 := by
              refine ⟨128 ^ (8 - i) * 2, ?_⟩
              rw [← Nat.mul_assoc, Nat.mul_comm 128, ← Nat.pow_succ, ← Nat.pow_add, show i + 1 + (8 - i) = 9 by omega]
            obtain ⟨z, hz⟩ := hd
            rw [hz]
            have hlt : 128 * 128 ^ i * q.1 < 128 * 128 ^ i * z := by rw [← hz]; rw [Nat.mul_comm (128 * 128 ^ i), ← Nat.mul_assoc]; exact this
            have hq1 : q.1 < z := Nat.lt_of_mul_lt_mul_left hlt
            have h11 : 128 * 128 ^ i * (q.1 + 1) ≤ 128 * 128 ^ i * z := Nat.mul_le_mul_left _ hq1
            rw [Nat.mul_add, Nat.mul_one] at h11
            rw [Nat.mul_assoc, Nat.mul_comm q.1]; exact h11
          omega

theorem part_le {l : List UInt8} {p wire x q : Nat} {d : List UInt8} (hp : p ≤ l.length) (h : part l p wire = some (x, d, q)) : p ≤ q ∧ q ≤ l.length := by
  unfold part at h
  split at h
  · simp only [Option.map_eq_some_iff, Prod.mk.injEq] at h
    obtain ⟨r, hr, -, -, h3⟩ := h
    have := rdv_len _ _ _ _ hr
    rw [List.length_drop] at this
    omega
  · split at h
    · split at h
      · simp only [Option.some.injEq, Prod.mk.injEq] at h; omega
      · cases h
    · split at h
      · split at h
        · simp only [Option.some.injEq, Prod.mk.injEq] at h; omega
        · cases h
      · split at h
        · simp only [Option.bind_eq_some_iff] at h
          obtain ⟨r, hr, h⟩ := h
          split at h
          · simp only [Option.some.injEq, Prod.mk.injEq] at h
            omega
          · cases h
        · cases h

/-- a field -/
structure Fld where
  num : Int
  wire : Int
  x : Nat
  data : List UInt8

/-- the field at a place, and the place behind -/
def rdF (l : List UInt8) (p : Nat) : Option (Fld × Nat) :=
  match rdv 0 (l.drop p) with
  | none => none
  | some (tag, n) => if tag / 8 < 1 ∨ 536870911 < tag / 8 then none else (part l (p + n) (tag % 8)).map fun q => (⟨(tag / 8 : Nat), (tag % 8 : Nat), q.1, q.2.1⟩, q.2.2)

theorem rdF_none {l : List UInt8} {p : Nat} (h : rdv 0 (l.drop p) = none) : rdF l p = none := by simp [rdF, h]
theorem rdF_bad {l : List UInt8} {p tag n : Nat} (h : rdv 0 (l.drop p) = some (tag, n)) (hb : tag / 8 < 1 ∨ 536870911 < tag / 8) : rdF l p = none := by simp only [rdF, h, if_pos hb]
theorem rdF_part {l : List UInt8} {p tag n : Nat} (h : rdv 0 (l.drop p) = some (tag, n)) (hb : ¬ (tag / 8 < 1 ∨ 536870911 < tag / 8)) :
    rdF l p = (part l (p + n) (tag % 8)).map fun q => (⟨(tag / 8 : Nat), (tag % 8 : Nat), q.1, q.2.1⟩, q.2.2) := by simp only [rdF, h, if_neg hb]
theorem or8 (m c : Nat) (hc : c < 8) (hm : m ≤ 536870911) : bits .or .u64 ((m : Int) * 8) (c : Int) = ((m * 8 + c : Nat) : Int) := by
  have h1 := bits_or_u64_nat (m * 8) c (by omega) (by omega)
  have h2 : m * 8 ||| c = m * 8 + c := by
    have := Nat.two_pow_add_eq_or_of_lt (i := 3) (b := c) hc m
    rw [Nat.mul_comm]; exact this.symm
  rw [h2] at h1
  exact h1
theorem u64_and7 (x : Nat) (h : x < 18446744073709551616) : bits .and .u64 (x : Int) 7 = (x : Int) % 8 := by
  have h1 := bits_and_u64_nat x 7 h (by omega)
  have h2 : x &&& 7 = x % 8 := Nat.and_two_pow_sub_one_eq_mod x 3
  rw [h2] at h1
  exact h1

theorem rdF_le {l : List UInt8} {p q : Nat} {f : Fld} (hp : p ≤ l.length) (h : rdF l p = some (f, q)) : p < q ∧ q ≤ l.length := by
  unfold rdF at h
  split at h
  · cases h
  · rename_i tag n ht
    have := rdv_len _ _ _ _ ht
    rw [List.length_drop] at this
    split at h
    · cases h
    · simp only [Option.map_eq_some_iff, Prod.mk.injEq] at h
      obtain ⟨r, hr, -, h2⟩ := h
      have := part_le (x := r.1) (d := r.2.1) (q := r.2.2) (by omega) hr
      omega

/-- the fields from a place on, with fuel -/
def rda : Nat → List UInt8 → Nat → Option (List Fld)
  | 0, _, _ => none
  | f + 1, l, p => if p = l.length then some [] else match rdF l p with
    | none => none
    | some (a, q) => (rda f l q).map (a :: ·)

/-- a message's fields -/
def rd (l : List UInt8) : Option (List Fld) := rda (l.length + 1) l 0
/-- what Read answers -/
def readE (l : List UInt8) : List Fld × Int :=
  if 4194304 < l.length then ([], 8) else match rd l with
    | none => ([], 6)
    | some fs => (fs, 0)

/-- some fields have been read, up to a place -/
def RD (l : List UInt8) (fs : List Fld) (p : Nat) : Prop := p ≤ l.length ∧ fs.length ≤ p ∧ ∃ f, l.length < p + f ∧ rd l = (rda f l p).map (fs ++ ·)
theorem RD.start (l : List UInt8) : RD l [] 0 := ⟨Nat.zero_le _, Nat.le_refl _, l.length + 1, by omega, by simp [rd]⟩
theorem RD.none_ {l : List UInt8} {fs : List Fld} {p : Nat} (h : RD l fs p) (hp : p < l.length) (hn : rdF l p = none) : rd l = none := by
  obtain ⟨h1, -, f, h2, h3⟩ := h
  cases f with
  | zero => omega
  | succ f => rw [h3]; simp [rda, hn]; omega
theorem RD.last {l : List UInt8} {fs : List Fld} {p : Nat} (h : RD l fs p) (hp : p = l.length) : rd l = some fs := by
  obtain ⟨h1, -, f, h2, h3⟩ := h
  cases f with
  | zero => omega
  | succ f => rw [h3]; simp [rda, hp]
theorem RD.more {l : List UInt8} {fs : List Fld} {p q : Nat} {a : Fld} (h : RD l fs p) (hp : p < l.length) (hn : rdF l p = some (a, q)) : RD l (fs ++ [a]) q := by
  have hq := rdF_le h.1 hn
  obtain ⟨h1, h4, f, h2, h3⟩ := h
  cases f with
  | zero => omega
  | succ f =>
    refine ⟨hq.2, by simp; omega, f, by omega, ?_⟩
    rw [h3]
    have hne : ¬ p = l.length := by omega
    simp only [rda, hne, if_false, hn, Option.map_map]
    refine congrArg (fun g => Option.map g _) (funext fun r => ?_)
    simp [Function.comp]

/-- may a field be written? (n: how many bytes it holds) -/
def mayN (num wire : Int) (x n : Nat) : Bool :=
  decide (1 ≤ num) && decide (num ≤ 536870911) && (if wire = 0 ∨ wire = 1 then decide (n = 0) else if wire = 5 then decide (n = 0) && decide (x < 4294967296) else if wire = 2 then decide (x = 0) else false)
def mayF (f : Fld) : Bool := mayN f.num f.wire f.x f.data.length

/-- a field's bytes -/
def wrF (f : Fld) : List UInt8 :=
  vi (f.num.toNat * 8 + f.wire.toNat) ++ (if f.wire = 0 then vi f.x else if f.wire = 1 then fix8 f.x 8 else if f.wire = 5 then fix8 f.x 4 else vi f.data.length ++ f.data)
/-- a message's bytes -/
def wr (fs : List Fld) : List UInt8 := fs.flatMap wrF
/-- what Write answers -/
def writeE (fs : List Fld) : List UInt8 × Int :=
  if fs.all mayF = true then (if 4194304 < (wr fs).length then ([], 8) else (wr fs, 0)) else ([], 1)

theorem wr_take (fs : List Fld) (k : Nat) (h : k < fs.length) : wr (fs.take (k + 1)) = wr (fs.take k) ++ wrF fs[k] := by
  unfold wr; rw [List.take_succ_eq_append_getElem h, List.flatMap_append]; simp
theorem wr_take_le (fs : List Fld) (k : Nat) : (wr (fs.take k)).length ≤ (wr fs).length := by
  have : wr fs = wr (fs.take k) ++ wr (fs.drop k) := by unfold wr; rw [← List.flatMap_append, List.take_append_drop]
  rw [this, List.length_append]; omega
theorem vif_len (f x : Nat) : (vif f x).length ≤ f + 1 ∧ 1 ≤ (vif f x).length := by
  induction f generalizing x with
  | zero => simp [vif]
  | succ f ih =>
    unfold vif
    split
    · simp
    · have := ih (x / 128); simp; omega
theorem vi_len (x : Nat) : (vi x).length ≤ 10 ∧ 1 ≤ (vi x).length := vif_len 9 x
/-- what a field that may be written is -/
theorem mayF_cases {f : Fld} (h : mayF f = true) : ∃ m : Nat, f.num = m ∧ 1 ≤ m ∧ m ≤ 536870911 ∧ ((f.wire = 0 ∧ f.data = []) ∨ (f.wire = 1 ∧ f.data = []) ∨ (f.wire = 5 ∧ f.data = [] ∧ f.x < 4294967296) ∨ (f.wire = 2 ∧ f.x = 0)) := by
  unfold mayF mayN at h
  simp only [Bool.and_eq_true, decide_eq_true_eq] at h
  obtain ⟨⟨h1, h2⟩, h3⟩ := h
  obtain ⟨m, hm⟩ := Int.eq_ofNat_of_zero_le (by omega : 0 ≤ f.num)
  refine ⟨m, hm, by omega, by omega, ?_⟩
  split at h3
  · rename_i hw
    have : f.data = [] := List.eq_nil_of_length_eq_zero (by simpa using h3)
    rcases hw with hw | hw
    · exact .inl ⟨hw, this⟩
    · exact .inr (.inl ⟨hw, this⟩)
  · split at h3
    · rename_i hw
      simp only [Bool.and_eq_true, decide_eq_true_eq] at h3
      exact .inr (.inr (.inl ⟨hw, List.eq_nil_of_length_eq_zero h3.1, h3.2⟩))
    · split at h3
      · rename_i hw
        exact .inr (.inr (.inr ⟨hw, by simpa using h3⟩))
      · cases h3

theorem rdv_lt64 {l : List UInt8} {x n : Nat} (h : rdv 0 l = some (x, n)) : x < 18446744073709551616 := by
  have := rdv_lt l 0 x n (by omega) h
  omega

end Go.Proofs.Ythhanpfcnaokpaa
