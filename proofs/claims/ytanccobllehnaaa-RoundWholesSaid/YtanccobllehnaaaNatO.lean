/- The contract of the document's Of. -/
import Derived.Test.YtanccobllehnaaaNatR
namespace Go.Proofs.Ytanccobllehnaaa
open Go.RowKit

/-- a whole number that a call answers -/
def NO (w : World) (v : Nat) (e : Ending) (w' : World) : Prop :=
  ∃ A k c l, e = .returned (.slice A k c) ∧ Hid (k = l.length) ∧ k ≤ c ∧ c ≤ maxLen ∧ WR w' w'.heap.size A l ∧ Wd l ∧ Trim l ∧ wv l = v ∧ Below w.heap.size w w'
theorem NO.mk {w w' : World} {A : Option Addr} {k c v : Nat} {l : List Nat} (hk : k ≤ l.length) (hc : k ≤ c) (hm : c ≤ maxLen) (hz : ∀ d ∈ l.drop k, d = 0) (ht : Trim (l.take k)) (hr : WR w' w'.heap.size A l) (hw : Wd l) (hv : wv l = v) (hb : Below w.heap.size w w') :
    NO w v (.returned (.slice A k c)) w' :=
  ⟨A, k, c, l.take k, rfl, Lib.hid (by rw [List.length_take]; omega), hc, hm, hr.take hk, fun d hd => hw d (List.mem_of_mem_take hd), ht, by rw [wv_trim hz, hv], hb⟩
set_option maxRecDepth 100000 in
theorem of_any (n : Nat) (w : World) (h : Hid (n < 18446744073709551616)) : Calls Try.prog 52 #[.int .u64 (n : Int)] w (NO w n) := by
  obtain ⟨lo, hlo⟩ : ∃ x, n % 4294967296 = x := ⟨_, rfl⟩
  obtain ⟨hi, hhi⟩ : ∃ x, n / 4294967296 = x := ⟨_, rfl⟩
  have hl : lo < 4294967296 := by omega
  have hh : hi < 4294967296 := by have := h.out; omega
  have hv : Hid (wv [lo, hi] = n) := Lib.hid (by simp only [wv]; omega)
  have e1 : (n : Int) % 4294967296 = (lo : Int) := by omega
  have e2 : (n : Int) / 4294967296 = (hi : Int) := by omega
  clear hlo hhi
  go_enter Try.func52, Try.ntmps52
  go_wp2_with fail
  refine (trim_any (n := 2) (cap := 2) (l := [lo, hi]) (Lib.hid rfl) (Nat.le_refl _) (by decide) (Reads.new_ w 22 (nums [lo, hi]) 1 2 rfl)).mono ?_
  rintro e w' ⟨k, rfl, hk, hz, ht, rfl⟩
  have hk2 : k ≤ 2 := hk
  go_wp2
  go_ret
  refine NO.mk (l := [lo, hi]) hk hk2 (by decide) hz ht ((Reads.new_ w 22 (nums [lo, hi]) 1 2 rfl).more (by simp)) ?_ hv.out ((Below.refl w.heap.size w).alloc (Nat.le_refl _) _)
  intro d hd
  simp at hd
  omega
end Go.Proofs.Ytanccobllehnaaa
