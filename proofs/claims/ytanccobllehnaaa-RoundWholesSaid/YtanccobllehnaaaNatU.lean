/- The contract of the document's Minus. -/
import Derived.Test.YtanccobllehnaaaNatS
namespace Go.Proofs.Ytanccobllehnaaa
open Go.RowKit

theorem minus_step {l a b : List Nat} {i c x y d e : Nat} (hl : l.length = i) (hx : wv (a.take (i + 1)) = wv (a.take i) + bs i * x) (hy : wv (b.take (i + 1)) = wv (b.take i) + bs i * y) (h : wv l + wv (b.take i) = wv (a.take i) + bs i * c) (hd : d + (c + y) = x + 4294967296 * e) :
    wv (l ++ [d]) + wv (b.take (i + 1)) = wv (a.take (i + 1)) + bs (i + 1) * e := by
  rw [wv_snoc, hl, hx, hy, bs_succ, Nat.mul_assoc]
  have := congrArg (bs i * ·) hd
  simp only [Nat.mul_add] at this
  omega
def MNrel (a b : List Nat) (w : World) (out cv i : Value) (wr : World) : Prop := ∃ (j c : Nat) (l : List Nat), i = .int .i64 (j : Int) ∧ j ≤ a.length ∧ cv = .int .u64 (c : Int) ∧ c ≤ 1 ∧ ON wr w.heap.size out l ∧ l.length = j ∧ Hid (Wd l) ∧ Hid (wv l + wv (b.take j) = wv (a.take j) + bs j * c) ∧ Below w.heap.size w wr

set_option maxRecDepth 100000 in
set_option maxHeartbeats 1600000 in
theorem minus_any {A A' : Option Addr} {n n' cap cap' B B' : Nat} {a b : List Nat} {w : World} (hn : Hid (n = a.length)) (hn' : Hid (n' = b.length)) (hs : n ≤ 1000000) (hle : n' ≤ n) (hB : B ≤ w.heap.size) (hB' : B' ≤ w.heap.size) (ha : WR w B A a) (hb : WR w B' A' b) (wa : Hid (Wd a)) (wb : Hid (Wd b)) (hab : Hid (wv b ≤ wv a)) :
    Calls Try.prog 56 #[.slice A n cap, .slice A' n' cap'] w (NO w (wv a - wv b)) := by
  go_enter Try.func56, Try.ntmps56
  go_wp2
  go_loopw [5, 6, 7] (fun out cv i wr => MNrel a b w out cv i wr) (fun _ _ i _ => n - (intOf i).toNat)
  case atStart => exact ⟨0, 0, [], rfl, Nat.zero_le _, rfl, by omega, ON.nil _ _, rfl, Lib.hid (fun d h => by simp at h), Lib.hid (by simp [wv]), Below.refl _ _⟩
  case round =>
    obtain ⟨i, c, l, rfl, hi, rfl, hc, hown, hll, HW, HV, hbel⟩ := hrel
    have hsz := hbel.size
    by_cases h1 : i < n
    · have hia : i < a.length := by rw [← hn.out]; exact h1
      obtain ⟨ba, oa, rfl, hba, a0'⟩ := ha.at_ hia
      have a0 := (hbel.cell (p := ⟨ba, _, none⟩) (by show ba < w.heap.size; omega)).trans a0'
      clear a0'
      have hx : a[i] < 4294967296 := wa.out _ (List.getElem_mem hia)
      have HX := Lib.hid (take_in hia)
      have hia2 : i + 1 ≤ a.length := hia
      generalize a[i] = x at *
      clear hia
      have h1' : (i : Int) < (n : Int) := by omega
      by_cases h2 : i < n'
      · have hib : i < b.length := by rw [← hn'.out]; exact h2
        obtain ⟨bb, ob, rfl, hbb, b0'⟩ := hb.at_ hib
        have b0 := (hbel.cell (p := ⟨bb, _, none⟩) (by show bb < w.heap.size; omega)).trans b0'
        clear b0'
        have hy : b[i] < 4294967296 := wb.out _ (List.getElem_mem hib)
        have HY := Lib.hid (take_in hib)
        generalize b[i] = y at *
        clear hib
        have h2' : (i : Int) < (n' : Int) := by omega
        by_cases h3 : x < c + y
        · have h33 := h3
          have hlt : (x : Int) < (c : Int) + (y : Int) := by omega
          have HS := Lib.hid (minus_step (x := x) (y := y) (d := x + 4294967296 - (c + y)) (e := 1) hll HX.out HY.out HV.out (by omega))
          clear HX HY
          go_wp2_with (at_builtin
                       go_must (refine append_word rfl _ _ rfl hown rfl rfl rfl (x + 4294967296 - (c + y)) (by omega) (by omega) hsz ?_; intro v2 w2 ho2 hg2 ha2))
          go_roundw
          case rel => exact ⟨i + 1, 1, _, by go_num, by omega, by first | rfl | simp, by omega, ho2, by simp; omega, Lib.hid (fun d hd => by
            rcases List.mem_append.1 hd with e | e
            · exact HW.out d e
            · simp at e; omega), HS, hown.grownB hg2 hsz (Nat.le_refl _) hbel⟩
          case measure => simp [intOf]; omega
        · have h33 := h3
          have hlt : ¬ (x : Int) < (c : Int) + (y : Int) := by omega
          have HS := Lib.hid (minus_step (x := x) (y := y) (d := x - (c + y)) (e := 0) hll HX.out HY.out HV.out (by omega))
          clear HX HY
          go_wp2_with (at_builtin
                       go_must (refine append_word rfl _ _ rfl hown rfl rfl rfl (x - (c + y)) (by omega) (by omega) hsz ?_; intro v2 w2 ho2 hg2 ha2))
          go_roundw
          case rel => exact ⟨i + 1, 0, _, by go_num, by omega, by first | rfl | simp, by omega, ho2, by simp; omega, Lib.hid (fun d hd => by
            rcases List.mem_append.1 hd with e | e
            · exact HW.out d e
            · simp at e; omega), HS, hown.grownB hg2 hsz (Nat.le_refl _) hbel⟩
          case measure => simp [intOf]; omega
      · have HY := Lib.hid (take_out (a := b) (show b.length ≤ i by rw [← hn'.out]; omega))
        have h2' : ¬ (i : Int) < (n' : Int) := by omega
        by_cases h3 : x < c
        · have h33 := h3
          have hlt : (x : Int) < (c : Int) := by omega
          have HS := Lib.hid (minus_step (x := x) (y := 0) (d := x + 4294967296 - (c)) (e := 1) hll HX.out HY.out HV.out (by omega))
          clear HX HY
          go_wp2_with (at_builtin
                       go_must (refine append_word rfl _ _ rfl hown rfl rfl rfl (x + 4294967296 - (c)) (by omega) (by omega) hsz ?_; intro v2 w2 ho2 hg2 ha2))
          go_roundw
          case rel => exact ⟨i + 1, 1, _, by go_num, by omega, by first | rfl | simp, by omega, ho2, by simp; omega, Lib.hid (fun d hd => by
            rcases List.mem_append.1 hd with e | e
            · exact HW.out d e
            · simp at e; omega), HS, hown.grownB hg2 hsz (Nat.le_refl _) hbel⟩
          case measure => simp [intOf]; omega
        · have h33 := h3
          have hlt : ¬ (x : Int) < (c : Int) := by omega
          have HS := Lib.hid (minus_step (x := x) (y := 0) (d := x - (c)) (e := 0) hll HX.out HY.out HV.out (by omega))
          clear HX HY
          go_wp2_with (at_builtin
                       go_must (refine append_word rfl _ _ rfl hown rfl rfl rfl (x - (c)) (by omega) (by omega) hsz ?_; intro v2 w2 ho2 hg2 ha2))
          go_roundw
          case rel => exact ⟨i + 1, 0, _, by go_num, by omega, by first | rfl | simp, by omega, ho2, by simp; omega, Lib.hid (fun d hd => by
            rcases List.mem_append.1 hd with e | e
            · exact HW.out d e
            · simp at e; omega), HS, hown.grownB hg2 hsz (Nat.le_refl _) hbel⟩
          case measure => simp [intOf]; omega
    · have hii : i = a.length := by have := hn.out; omega
      have HF : Hid (wv l = wv a - wv b) := Lib.hid (by
        have h4 := HV.out
        rw [hii, List.take_length, List.take_of_length_le (by rw [← hn'.out, ← hn.out]; exact hle)] at h4
        have h5 := wv_lt HW.out
        have h6 := hab.out
        have h7 : c = 0 := by
          by_cases hc0 : c = 0
          · exact hc0
          · obtain rfl : c = 1 := by omega
            rw [hll, hii] at h5
            have e : bs a.length = 4294967296 ^ a.length := rfl
            rw [Nat.mul_one, e] at h4
            omega
        rw [h7] at h4
        omega)
      have h1' : ¬ (i : Int) < (n : Int) := by omega
      obtain ⟨A2, n2, c2, rfl, hn2, hl2, hm2, hr2⟩ := hown.form
      go_wp2_with fail
      refine (trim_any hn2 hl2 hm2 hr2).mono ?_
      rintro e w' ⟨k', rfl, hk', hz, ht, rfl⟩
      go_wp2
      go_ret
      exact NO.mk hk' (by have := hn2.out; omega) hm2 hz ht hr2 HW.out HF.out hbel
end Go.Proofs.Ytanccobllehnaaa
