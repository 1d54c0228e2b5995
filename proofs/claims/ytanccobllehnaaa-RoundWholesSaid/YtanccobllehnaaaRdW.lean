/- The contracts of round's numbers of two words: plus, minus, less. -/
import Derived.Test.YtanccobllehnaaaRdV
import Derived.Laws.Externs
namespace Go.Proofs.Ytanccobllehnaaa
open Go.RowKit

theorem add64 (x y c : Int) (hx : 0 ≤ x) (hy : 0 ≤ y) (hc0 : 0 ≤ c) (hc : c ≤ 1) (w : World) : (callFunc 81 #[.int .u64 x, .int .u64 y, .int .u64 c]).run Try.prog w =
    .ok (.value (.tuple #[.int .u64 ((x + y + c) % 18446744073709551616), .int .u64 ((x + y + c) / 18446744073709551616)])) w := by
  rw [run_callFunc_extern Try.func81 (by kernel_rfl) (by kernel_rfl) (by kernel_rfl) (e := add64Entry) (by kernel_rfl), run_add64 x y c hx hy hc0 hc]
  rfl
def sub64E : Array Value → Sem Value := fun args => do
  let (x, y, b) ← Extern.MathBitsCarry.three "Sub64" args
  pure (Extern.MathBitsCarry.pair ((x + Extern.MathBitsCarry.m64 - y - b) % Extern.MathBitsCarry.m64) (if x < y + b then 1 else 0))
theorem run_sub64 (x y b : Nat) (hb : b ≤ 1) (w : World) :
    (sub64E #[.int .u64 x, .int .u64 y, .int .u64 b]).run Try.prog w =
      .ok (.tuple #[.int .u64 (((x + 18446744073709551616 - y - b) % 18446744073709551616 : Nat) : Int), .int .u64 ((if x < y + b then 1 else 0 : Nat) : Int)]) w := by
  have : b = 0 ∨ b = 1 := by omega
  rcases this with rfl | rfl <;> rfl
def bor (x y : Int) : Int := if x < y then 1 else 0
theorem bor_le (x y : Int) : 0 ≤ bor x y ∧ bor x y ≤ 1 := by unfold bor; split <;> omega
theorem sub64 (x y b : Int) (hx : 0 ≤ x) (hy : 0 ≤ y) (hy' : y < 18446744073709551616) (hb0 : 0 ≤ b) (hb : b ≤ 1) (w : World) : (callFunc 82 #[.int .u64 x, .int .u64 y, .int .u64 b]).run Try.prog w =
    .ok (.value (.tuple #[.int .u64 ((x - y - b) % 18446744073709551616), .int .u64 (bor x (y + b))])) w := by
  obtain ⟨x, rfl⟩ := Int.eq_ofNat_of_zero_le hx
  obtain ⟨y, rfl⟩ := Int.eq_ofNat_of_zero_le hy
  obtain ⟨b, rfl⟩ := Int.eq_ofNat_of_zero_le hb0
  have e1 : (((x + 18446744073709551616 - y - b) % 18446744073709551616 : Nat) : Int) = ((x : Int) - y - b) % 18446744073709551616 := by omega
  have e2 : ((if x < y + b then 1 else 0 : Nat) : Int) = bor (x : Int) (y + b) := by unfold bor; split <;> split <;> omega
  rw [← e1, ← e2, run_callFunc_extern Try.func82 (by kernel_rfl) (by kernel_rfl) (by kernel_rfl) (e := sub64E) (by kernel_rfl), run_sub64 x y b (by omega)]
  rfl
theorem add64_0 (x y : Int) (hx : 0 ≤ x) (hy : 0 ≤ y) (w : World) : (callFunc 81 #[.int .u64 x, .int .u64 y, .int .u64 0]).run Try.prog w =
    .ok (.value (.tuple #[.int .u64 ((x + y) % 18446744073709551616), .int .u64 ((x + y) / 18446744073709551616)])) w := by
  simpa using add64 x y 0 hx hy (Int.le_refl 0) (by decide) w
theorem sub64_0 (x y : Int) (hx : 0 ≤ x) (hy : 0 ≤ y) (hy' : y < 18446744073709551616) (w : World) : (callFunc 82 #[.int .u64 x, .int .u64 y, .int .u64 0]).run Try.prog w =
    .ok (.value (.tuple #[.int .u64 ((x - y) % 18446744073709551616), .int .u64 (bor x y)])) w := by
  simpa using sub64 x y 0 hx hy hy' (Int.le_refl 0) (by decide) w
def Word (x : Int) : Prop := 0 ≤ x ∧ x < 18446744073709551616
def Three (w w' : World) : Prop := ∃ c1 c2 c3 : Array Value, w' = ((w.alloc (.cells c1 73)).alloc (.cells c2 73)).alloc (.cells c3 73)

set_option maxRecDepth 100000 in
theorem plus_raw (ah al bh bl : Int) (h1 : Word ah) (h2 : Word al) (h3 : Word bh) (h4 : Word bl) (w : World) :
    Calls Try.prog 74 #[.agg #[.int .u64 ah, .int .u64 al], .agg #[.int .u64 bh, .int .u64 bl]] w fun e w' =>
      e = .returned (.agg #[.int .u64 ((ah + bh + (al + bl) / 18446744073709551616) % 18446744073709551616), .int .u64 ((al + bl) % 18446744073709551616)]) ∧ Three w w' := by
  obtain ⟨a1, a2⟩ := h1; obtain ⟨b1, b2⟩ := h2; obtain ⟨c1, c2⟩ := h3; obtain ⟨d1, d2⟩ := h4
  have k0 : 0 ≤ (al + bl) / 18446744073709551616 := by omega
  have k1 : (al + bl) / 18446744073709551616 ≤ 1 := by omega
  go_enter Try.func74, Try.ntmps74
  go_wp2_with (first | simp only [add64_0 al bl b1 d1] | simp only [add64 ah bh _ a1 c1 k0 k1])
  simp [bodyPost, results, Try.results74, go_sem]
  exact ⟨_, _, _, rfl⟩
set_option maxRecDepth 100000 in
theorem minus_raw (ah al bh bl : Int) (h1 : Word ah) (h2 : Word al) (h3 : Word bh) (h4 : Word bl) (w : World) :
    Calls Try.prog 76 #[.agg #[.int .u64 ah, .int .u64 al], .agg #[.int .u64 bh, .int .u64 bl]] w fun e w' =>
      e = .returned (.agg #[.int .u64 ((ah - bh - bor al bl) % 18446744073709551616), .int .u64 ((al - bl) % 18446744073709551616)]) ∧ Three w w' := by
  obtain ⟨k0, k1⟩ := bor_le al bl
  obtain ⟨a1, a2⟩ := h1; obtain ⟨b1, b2⟩ := h2; obtain ⟨c1, c2⟩ := h3; obtain ⟨d1, d2⟩ := h4
  go_enter Try.func76, Try.ntmps76
  go_wp2_with (first | simp only [sub64_0 al bl b1 d1 d2] | simp only [sub64 ah bh _ a1 c1 c2 k0 k1])
  simp [bodyPost, results, Try.results76, go_sem]
  exact ⟨_, _, _, rfl⟩
theorem hi_word {v : Nat} (h : v < 340282366920938463463374607431768211456) : Word (hiW v) := by unfold Word hiW; omega
theorem lo_word (v : Nat) : Word (loW v) := by unfold Word loW; omega
theorem wplus_any {a b v : Nat} {w : World} (hv : Hid (a + b = v)) (h : Hid (v < 340282366920938463463374607431768211456)) :
    Calls Try.prog 74 #[.agg #[.int .u64 (hiW a : Int), .int .u64 (loW a : Int)], .agg #[.int .u64 (hiW b : Int), .int .u64 (loW b : Int)]] w fun e w' =>
      e = .returned (.agg #[.int .u64 (hiW v : Int), .int .u64 (loW v : Int)]) ∧ Three w w' := by
  have h0 := h.out
  have h1 := hv.out
  have := plus_raw (hiW a) (loW a) (hiW b) (loW b) (hi_word (by omega)) (lo_word _) (hi_word (by omega)) (lo_word _) w
  have e1 : ((hiW a : Int) + (hiW b : Int) + ((loW a : Int) + (loW b : Int)) / 18446744073709551616) % 18446744073709551616 = (hiW v : Int) := by unfold hiW loW; omega
  have e2 : ((loW a : Int) + (loW b : Int)) % 18446744073709551616 = (loW v : Int) := by unfold loW; omega
  rw [e1, e2] at this
  exact this
theorem minus_any' {a b v : Nat} {w : World} (hv : Hid (a = b + v)) (h : Hid (a < 340282366920938463463374607431768211456)) :
    Calls Try.prog 76 #[.agg #[.int .u64 (hiW a : Int), .int .u64 (loW a : Int)], .agg #[.int .u64 (hiW b : Int), .int .u64 (loW b : Int)]] w fun e w' =>
      e = .returned (.agg #[.int .u64 (hiW v : Int), .int .u64 (loW v : Int)]) ∧ Three w w' := by
  have h0 := h.out
  have h1 := hv.out
  have := minus_raw (hiW a) (loW a) (hiW b) (loW b) (hi_word (by omega)) (lo_word _) (hi_word (by omega)) (lo_word _) w
  have e1 : ((hiW a : Int) - (hiW b : Int) - bor (loW a) (loW b)) % 18446744073709551616 = (hiW v : Int) := by unfold bor hiW loW; split <;> omega
  have e2 : ((loW a : Int) - (loW b : Int)) % 18446744073709551616 = (loW v : Int) := by unfold loW; omega
  rw [e1, e2] at this
  exact this
def Two (w w' : World) : Prop := ∃ c1 c2 : Array Value, w' = (w.alloc (.cells c1 73)).alloc (.cells c2 73)
set_option maxRecDepth 100000 in
theorem less_raw (ah al bh bl : Int) (r : Bool) (hr : Hid (decide (ah < bh ∨ (ah = bh ∧ al < bl)) = r)) (w : World) :
    Calls Try.prog 77 #[.agg #[.int .u64 ah, .int .u64 al], .agg #[.int .u64 bh, .int .u64 bl]] w fun e w' =>
      e = .returned (.bool r) ∧ Two w w' := by
  by_cases c1 : ah < bh
  · have HR : Hid (r = true) := Lib.hid (hr.out.symm.trans (decide_eq_true (.inl c1)))
    go_enter Try.func77, Try.ntmps77
    go_wp2
    go_ret
    exact ⟨by rw [HR.out]; try rfl, _, _, rfl⟩
  by_cases c2 : ah = bh
  · subst c2
    by_cases c3 : al < bl
    · have HR : Hid (r = true) := Lib.hid (hr.out.symm.trans (decide_eq_true (.inr ⟨rfl, c3⟩)))
      go_enter Try.func77, Try.ntmps77
      go_wp2
      go_ret
      exact ⟨by rw [HR.out]; try rfl, _, _, rfl⟩
    · have HR : Hid (r = false) := Lib.hid (hr.out.symm.trans (decide_eq_false (by omega)))
      go_enter Try.func77, Try.ntmps77
      go_wp2
      go_ret
      exact ⟨by rw [HR.out]; try rfl, _, _, rfl⟩
  · have HR : Hid (r = false) := Lib.hid (hr.out.symm.trans (decide_eq_false (by omega)))
    have b2 : (ah == bh) = false := by rw [beq_eq_false_iff_ne]; exact c2
    go_enter Try.func77, Try.ntmps77
    go_wp2
    go_ret
    exact ⟨by rw [HR.out]; try rfl, _, _, rfl⟩
theorem less_wide {a b : Nat} {r : Bool} {w : World} (hr : Hid (decide (a < b) = r)) :
    Calls Try.prog 77 #[.agg #[.int .u64 (hiW a : Int), .int .u64 (loW a : Int)], .agg #[.int .u64 (hiW b : Int), .int .u64 (loW b : Int)]] w fun e w' =>
      e = .returned (.bool r) ∧ Two w w' := by
  refine less_raw (hiW a) (loW a) (hiW b) (loW b) r (Lib.hid ?_) w
  rw [← hr.out]
  congr 1
  apply propext
  unfold hiW loW
  omega
end Go.Proofs.Ytanccobllehnaaa
