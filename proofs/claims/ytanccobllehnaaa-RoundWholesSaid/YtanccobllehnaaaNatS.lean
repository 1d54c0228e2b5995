/- The contract of the document's Plus. -/
import Derived.Test.YtanccobllehnaaaNatM
namespace Go.Proofs.Ytanccobllehnaaa
open Go.RowKit

theorem take_in {a : List Nat} {i : Nat} (h : i < a.length) : wv (a.take (i + 1)) = wv (a.take i) + bs i * a[i] := wv_take h
theorem take_out {a : List Nat} {i : Nat} (h : a.length ≤ i) : wv (a.take (i + 1)) = wv (a.take i) + bs i * 0 := by
  rw [List.take_of_length_le h, List.take_of_length_le (by omega)]; rfl
theorem plus_step {l a b : List Nat} {i c x y : Nat} (hl : l.length = i) (hx : wv (a.take (i + 1)) = wv (a.take i) + bs i * x) (hy : wv (b.take (i + 1)) = wv (b.take i) + bs i * y) (h : wv l + bs i * c = wv (a.take i) + wv (b.take i)) :
    wv (l ++ [(c + x + y) % 4294967296]) + bs (i + 1) * ((c + x + y) / 4294967296) = wv (a.take (i + 1)) + wv (b.take (i + 1)) := by
  rw [wv_snoc, hl, hx, hy, bs_succ, Nat.add_assoc, Nat.mul_assoc, ← Nat.mul_add, Nat.mod_add_div, Nat.mul_add, Nat.mul_add]
  omega
def PLrel (a b : List Nat) (n n' : Nat) (w : World) (out cv i : Value) (wr : World) : Prop := ∃ (j c : Nat) (l : List Nat), i = .int .i64 (j : Int) ∧ cv = .int .u64 (c : Int) ∧ c ≤ 1 ∧ (j ≤ max n n' ∨ (j = max n n' + 1 ∧ c = 0)) ∧ ON wr w.heap.size out l ∧ l.length = j ∧ Hid (Wd l) ∧ Hid (wv l + bs j * c = wv (a.take j) + wv (b.take j)) ∧ Below w.heap.size w wr

set_option maxRecDepth 100000 in
set_option maxHeartbeats 1600000 in
theorem plus_any {A A' : Option Addr} {n n' cap cap' B B' : Nat} {a b : List Nat} {w : World} (hn : Hid (n = a.length)) (hn' : Hid (n' = b.length)) (hs : n ≤ 1000000) (hs' : n' ≤ 1000000) (hB : B ≤ w.heap.size) (hB' : B' ≤ w.heap.size) (ha : WR w B A a) (hb : WR w B' A' b) (wa : Hid (Wd a)) (wb : Hid (Wd b)) :
    Calls Try.prog 54 #[.slice A n cap, .slice A' n' cap'] w (NO w (wv a + wv b)) := by
  go_enter Try.func54, Try.ntmps54
  go_wp2
  go_loopw [5, 6, 7] (fun out cv i wr => PLrel a b n n' w out cv i wr) (fun _ _ i _ => max n n' + 2 - (intOf i).toNat)
  case atStart => exact ⟨0, 0, [], rfl, rfl, by omega, .inl (Nat.zero_le _), ON.nil _ _, rfl, Lib.hid (fun d h => by simp at h), Lib.hid (by simp [wv]), Below.refl _ _⟩
  case round =>
    obtain ⟨i, c, l, rfl, rfl, hc, hi, hown, hll, HW, HV, hbel⟩ := hrel
    have hsz := hbel.size
    by_cases h1 : i < n
    · by_cases h2 : i < n'
      · obtain ⟨ba, oa, rfl, hba, a0'⟩ := ha.at_ (show i < a.length by rw [← hn.out]; exact h1)
        have a0 := (hbel.cell (p := ⟨ba, _, none⟩) (by show ba < w.heap.size; omega)).trans a0'
        clear a0'
        have hx : a[i]'(by rw [← hn.out]; exact h1) < 4294967296 := wa.out _ (List.getElem_mem _)
        have HX := Lib.hid (take_in (a := a) (show i < a.length by rw [← hn.out]; exact h1))
        generalize a[i]'(by rw [← hn.out]; exact h1) = x at *
        have h1' : (i : Int) < (n : Int) := by omega
        obtain ⟨bb, ob, rfl, hbb, b0'⟩ := hb.at_ (show i < b.length by rw [← hn'.out]; exact h2)
        have b0 := (hbel.cell (p := ⟨bb, _, none⟩) (by show bb < w.heap.size; omega)).trans b0'
        clear b0'
        have hy : b[i]'(by rw [← hn'.out]; exact h2) < 4294967296 := wb.out _ (List.getElem_mem _)
        have HY := Lib.hid (take_in (a := b) (show i < b.length by rw [← hn'.out]; exact h2))
        generalize b[i]'(by rw [← hn'.out]; exact h2) = y at *
        have h2' : (i : Int) < (n' : Int) := by omega
        have HS := Lib.hid (plus_step (x := x) (y := y) hll HX.out HY.out HV.out)
        clear HX HY
        go_wp2_with (at_builtin
                     go_must (refine append_word rfl _ _ rfl hown rfl rfl rfl ((c + x + y) % 4294967296) (by simp) (by omega) hsz ?_; intro v2 w2 ho2 hg2 ha2))
        go_roundw
        case rel => exact ⟨i + 1, (c + x + y) / 4294967296, _, by go_num, by simp, by omega, by omega, ho2, by simp; omega, Lib.hid (fun d hd => by
          rcases List.mem_append.1 hd with e | e
          · exact HW.out d e
          · simp at e; omega), Lib.hid (by simpa using HS.out), hown.grownB hg2 hsz (Nat.le_refl _) hbel⟩
        case measure => simp [intOf]; omega
      · obtain ⟨ba, oa, rfl, hba, a0'⟩ := ha.at_ (show i < a.length by rw [← hn.out]; exact h1)
        have a0 := (hbel.cell (p := ⟨ba, _, none⟩) (by show ba < w.heap.size; omega)).trans a0'
        clear a0'
        have hx : a[i]'(by rw [← hn.out]; exact h1) < 4294967296 := wa.out _ (List.getElem_mem _)
        have HX := Lib.hid (take_in (a := a) (show i < a.length by rw [← hn.out]; exact h1))
        generalize a[i]'(by rw [← hn.out]; exact h1) = x at *
        have h1' : (i : Int) < (n : Int) := by omega
        have HY := Lib.hid (take_out (a := b) (show b.length ≤ i by rw [← hn'.out]; omega))
        have h2' : ¬ (i : Int) < (n' : Int) := by omega
        have HS := Lib.hid (plus_step (x := x) (y := 0) hll HX.out HY.out HV.out)
        clear HX HY
        go_wp2_with (at_builtin
                     go_must (refine append_word rfl _ _ rfl hown rfl rfl rfl ((c + x) % 4294967296) (by simp) (by omega) hsz ?_; intro v2 w2 ho2 hg2 ha2))
        go_roundw
        case rel => exact ⟨i + 1, (c + x) / 4294967296, _, by go_num, by simp, by omega, by omega, ho2, by simp; omega, Lib.hid (fun d hd => by
          rcases List.mem_append.1 hd with e | e
          · exact HW.out d e
          · simp at e; omega), Lib.hid (by simpa using HS.out), hown.grownB hg2 hsz (Nat.le_refl _) hbel⟩
        case measure => simp [intOf]; omega
    · by_cases h2 : i < n'
      · have HX := Lib.hid (take_out (a := a) (show a.length ≤ i by rw [← hn.out]; omega))
        have h1' : ¬ (i : Int) < (n : Int) := by omega
        obtain ⟨bb, ob, rfl, hbb, b0'⟩ := hb.at_ (show i < b.length by rw [← hn'.out]; exact h2)
        have b0 := (hbel.cell (p := ⟨bb, _, none⟩) (by show bb < w.heap.size; omega)).trans b0'
        clear b0'
        have hy : b[i]'(by rw [← hn'.out]; exact h2) < 4294967296 := wb.out _ (List.getElem_mem _)
        have HY := Lib.hid (take_in (a := b) (show i < b.length by rw [← hn'.out]; exact h2))
        generalize b[i]'(by rw [← hn'.out]; exact h2) = y at *
        have h2' : (i : Int) < (n' : Int) := by omega
        have HS := Lib.hid (plus_step (x := 0) (y := y) hll HX.out HY.out HV.out)
        clear HX HY
        go_wp2_with (at_builtin
                     go_must (refine append_word rfl _ _ rfl hown rfl rfl rfl ((c + y) % 4294967296) (by simp) (by omega) hsz ?_; intro v2 w2 ho2 hg2 ha2))
        go_roundw
        case rel => exact ⟨i + 1, (c + y) / 4294967296, _, by go_num, by simp, by omega, by omega, ho2, by simp; omega, Lib.hid (fun d hd => by
          rcases List.mem_append.1 hd with e | e
          · exact HW.out d e
          · simp at e; omega), Lib.hid (by simpa using HS.out), hown.grownB hg2 hsz (Nat.le_refl _) hbel⟩
        case measure => simp [intOf]; omega
      · by_cases h3 : 0 < c
        · have HX := Lib.hid (take_out (a := a) (show a.length ≤ i by rw [← hn.out]; omega))
          have h1' : ¬ (i : Int) < (n : Int) := by omega
          have HY := Lib.hid (take_out (a := b) (show b.length ≤ i by rw [← hn'.out]; omega))
          have h2' : ¬ (i : Int) < (n' : Int) := by omega
          have HS := Lib.hid (plus_step (x := 0) (y := 0) hll HX.out HY.out HV.out)
          have h3' : (0 : Int) < (c : Int) := by omega
          clear HX HY
          go_wp2_with (at_builtin
                       go_must (refine append_word rfl _ _ rfl hown rfl rfl rfl ((c) % 4294967296) (by simp) (by omega) hsz ?_; intro v2 w2 ho2 hg2 ha2))
          go_roundw
          case rel => exact ⟨i + 1, (c) / 4294967296, _, by go_num, by simp, by omega, by omega, ho2, by simp; omega, Lib.hid (fun d hd => by
            rcases List.mem_append.1 hd with e | e
            · exact HW.out d e
            · simp at e; omega), Lib.hid (by simpa using HS.out), hown.grownB hg2 hsz (Nat.le_refl _) hbel⟩
          case measure => simp [intOf]; omega
        · have hc0 : c = 0 := by omega
          subst hc0
          have HF : Hid (wv l = wv a + wv b) := Lib.hid (by
            have := HV.out
            rw [Nat.mul_zero, Nat.add_zero, List.take_of_length_le (by rw [← hn.out]; omega), List.take_of_length_le (by rw [← hn'.out]; omega)] at this
            exact this)
          have h1' : ¬ (i : Int) < (n : Int) := by omega
          have h2' : ¬ (i : Int) < (n' : Int) := by omega
          obtain ⟨A2, n2, c2, rfl, hn2, hl2, hm2, hr2⟩ := hown.form
          go_wp2_with fail
          refine (trim_any hn2 hl2 hm2 hr2).mono ?_
          rintro e w' ⟨k', rfl, hk', hz, ht, rfl⟩
          go_wp2
          go_ret
          exact NO.mk hk' (by have := hn2.out; omega) hm2 hz ht hr2 HW.out HF.out hbel
end Go.Proofs.Ytanccobllehnaaa
