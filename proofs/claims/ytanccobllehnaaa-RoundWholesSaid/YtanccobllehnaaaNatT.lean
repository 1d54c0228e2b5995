/- The contract of the document's Twice: times two to the k. -/
import Derived.Test.YtanccobllehnaaaNatA
import Derived.Deep.DeepMust
namespace Go.Proofs.Ytanccobllehnaaa
open Go.RowKit

def bs (n : Nat) : Nat := 4294967296 ^ n
theorem bs_succ (n : Nat) : bs (n + 1) = bs n * 4294967296 := Nat.pow_succ ..
theorem bs_add (a b : Nat) : bs (a + b) = bs a * bs b := Nat.pow_add ..
theorem bs_two (n : Nat) : bs n = two (32 * n) := by
  unfold bs two
  rw [Nat.pow_mul]
theorem wv_snoc (l : List Nat) (d : Nat) : wv (l ++ [d]) = wv l + bs l.length * d := by
  rw [wv_append]; simp only [wv]; rfl
theorem wv_rep (n : Nat) : wv (List.replicate n 0) = 0 := wv_zero fun d h => by simpa using (List.eq_of_mem_replicate h)
/-- one round of Twice -/
theorem twice_step {l a : List Nat} {q j k r c : Nat} (hk : k = 32 * q + r) (hl : l.length = q + j) (hj : j < a.length) (h : wv l + bs (q + j) * c = two k * wv (a.take j)) :
    wv (l ++ [(a[j] * two r + c) % 4294967296]) + bs (q + (j + 1)) * ((a[j] * two r + c) / 4294967296) = two k * wv (a.take (j + 1)) := by
  rw [wv_snoc, hl, wv_take hj, Nat.mul_add, ← h, show q + (j + 1) = q + j + 1 from rfl, bs_succ, Nat.add_assoc, Nat.mul_assoc, ← Nat.mul_add, Nat.mod_add_div]
  have e : two k * (4294967296 ^ j * a[j]) = bs (q + j) * (a[j] * two r) := by
    rw [hk, two_add, ← bs_two, bs_add]
    show bs q * two r * (bs j * a[j]) = bs q * bs j * (a[j] * two r)
    generalize bs q = x; generalize two r = y; generalize bs j = z; generalize a[j] = t
    rw [Nat.mul_assoc, Nat.mul_assoc, Nat.mul_comm y, Nat.mul_assoc]
  rw [e, Nat.mul_add]
  omega
def TW1 (q : Nat) (w : World) (out i : Value) (wr : World) : Prop := ∃ j : Nat, i = .int .i64 (j : Int) ∧ j ≤ q ∧ ON wr w.heap.size out (List.replicate j 0) ∧ Below w.heap.size w wr
def TW2 (a : List Nat) (q k : Nat) (w : World) (out cv i : Value) (wr : World) : Prop := ∃ (j c : Nat) (l : List Nat), i = .int .i64 (j : Int) ∧ j ≤ a.length ∧ cv = .int .u64 (c : Int) ∧ c < 4294967296 ∧ ON wr w.heap.size out l ∧ l.length = q + j ∧ Hid (Wd l) ∧ Hid (wv l + bs (q + j) * c = two k * wv (a.take j)) ∧ Below w.heap.size w wr

set_option maxRecDepth 100000 in
set_option maxHeartbeats 1600000 in
theorem twice_any {A : Option Addr} {n cap k B : Nat} {a : List Nat} {w : World} (hn : Hid (n = a.length)) (hs : n ≤ 1000000) (hk : k ≤ 1000000) (hB : B ≤ w.heap.size) (ha : WR w B A a) (wa : Hid (Wd a)) :
    Calls Try.prog 51 #[.slice A n cap, .int .i64 (k : Int)] w (NO w (two k * wv a)) := by
  obtain ⟨q, hq⟩ : ∃ q, k / 32 = q := ⟨_, rfl⟩
  obtain ⟨r, hr⟩ : ∃ r, k % 32 = r := ⟨_, rfl⟩
  have hkq : Hid (k = 32 * q + r) := Lib.hid (by omega)
  have e1 : (k : Int) / 32 = (q : Int) := by omega
  have e2 : (k : Int) % 32 = (r : Int) := by omega
  have hr32 : r < 32 := by omega
  have hq2 : q ≤ 1000000 := by omega
  clear hq hr
  go_enter Try.func51, Try.ntmps51
  go_wp2
  go_loopw [5, 6] (fun out i wr => TW1 q w out i wr) (fun _ i _ => q - (intOf i).toNat)
  case atStart => exact ⟨0, rfl, Nat.zero_le _, ON.nil _ _, Below.refl _ _⟩
  case round =>
    obtain ⟨j, rfl, hj, hown, hbel⟩ := hrel
    have hsz := hbel.size
    by_cases hlt : j < q
    · have hlt' : (j : Int) < (q : Int) := by omega
      go_wp2_with (at_builtin
                   go_must (refine append_word rfl _ _ rfl hown rfl rfl rfl 0 rfl (by simp; omega) hsz ?_; intro v2 w2 ho2 hg2 ha2))
      go_roundw
      case rel => exact ⟨j + 1, by go_num, by omega, by rw [List.replicate_succ']; exact ho2, hown.grownB hg2 hsz (Nat.le_refl _) hbel⟩
      case measure => simp [intOf]; omega
    · have hjq : j = q := by omega
      subst hjq
      have hlt' : ¬ (j : Int) < (j : Int) := by omega
      go_wp2
      go_loopw [5, 7, 8] (fun out cv i wr => TW2 a j k w out cv i wr) (fun _ _ i _ => n - (intOf i).toNat)
      case atStart => exact ⟨0, 0, _, rfl, Nat.zero_le _, rfl, by omega, hown, by simp, Lib.hid (fun d hd => by rw [List.eq_of_mem_replicate hd]; omega), Lib.hid (by simp [wv_rep, wv]), hbel⟩
      case round =>
        clear hown hbel hsz
        obtain ⟨i, c, l, rfl, hi, rfl, hc, hown, hll, HW, HV, hbel⟩ := hrel
        have hsz := hbel.size
        by_cases hin : i < n
        · have hia : i < a.length := by rw [← hn.out]; exact hin
          obtain ⟨b, off, rfl, hbb, a0'⟩ := ha.at_ hia
          have a0 := (hbel.cell (p := ⟨b, _, none⟩) (by show b < w.heap.size; omega)).trans a0'
          clear a0'
          have HS := Lib.hid (twice_step hkq.out hll hia HV.out)
          have hx : a[i] < 4294967296 := wa.out _ (List.getElem_mem hia)
          have hin' : (i : Int) < (n : Int) := by omega
          have ht := two_le (show r ≤ 31 by omega)
          have e31 : two 31 = 2147483648 := rfl
          rw [e31] at ht
          have hi1 : i + 1 ≤ a.length := hia
          generalize a[i] = x at *
          have hxr : x * two r ≤ 4294967295 * 2147483648 := Nat.mul_le_mul (by omega) ht
          have hsh : IntKind.u64.wrap ((x : Int) * 2 ^ r) = ((x * two r : Nat) : Int) := by
            rw [two_cast, ← Int.natCast_mul, wrap64_nat (by omega)]
          generalize x * two r = X at *
          go_wp2_with (at_builtin
                       go_must (refine append_word rfl _ _ rfl hown rfl rfl rfl ((X + c) % 4294967296) (by simp) (by omega) hsz ?_; intro v2 w2 ho2 hg2 ha2))
          go_roundw
          case rel => exact ⟨i + 1, (X + c) / 4294967296, _, by go_num, hi1, by simp, by omega, ho2, by simp; omega, Lib.hid (fun d hd => by
            rcases List.mem_append.1 hd with e | e
            · exact HW.out d e
            · simp at e; omega), HS, hown.grownB hg2 hsz (Nat.le_refl _) hbel⟩
          case measure => simp [intOf]; omega
        · have hin' : ¬ (i : Int) < (n : Int) := by omega
          have hii : i = a.length := by have := hn.out; omega
          have hin2 : i ≤ n := by rw [hn.out]; exact hi
          have HV2 : Hid (wv (l ++ [c]) = two k * wv a) := Lib.hid (by rw [wv_snoc, hll, HV.out, hii, List.take_length])
          go_wp2_with (at_builtin
                       go_must (refine append_word rfl _ _ rfl hown rfl rfl rfl c (by first | rfl | simp) (by omega) hsz ?_; intro v2 w2 ho2 hg2 ha2)
                       obtain ⟨A2, n2, c2, rfl, hn2, hl2, hm2, hr2⟩ := ho2.form)
          have hb2 := hown.grownB hg2 hsz (Nat.le_refl _) hbel
          refine (trim_any hn2 hl2 hm2 hr2).mono ?_
          rintro e w' ⟨k', rfl, hk', hz, ht, rfl⟩
          go_wp2
          go_ret
          exact NO.mk hk' (by have := hn2.out; omega) hm2 hz ht hr2 (fun d hd => by
            rcases List.mem_append.1 hd with e | e
            · exact HW.out d e
            · simp at e; omega) HV2.out hb2
end Go.Proofs.Ytanccobllehnaaa
