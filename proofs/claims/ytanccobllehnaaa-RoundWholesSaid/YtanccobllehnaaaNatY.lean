/- The contract of the document's Times. -/
import Derived.Test.YtanccobllehnaaaNatX
namespace Go.Proofs.Ytanccobllehnaaa
open Go.RowKit

theorem inner_law {j k x y u v : Nat} (h : u = v + bs k * y) : bs j * (x * u) = bs j * (x * v) + bs (j + k) * (x * y) := by
  rw [h, bs_add, Nat.mul_add, Nat.mul_add]
  congr 1
  generalize bs j = p; generalize bs k = q
  rw [Nat.mul_left_comm x q y, ← Nat.mul_assoc]
def TX1 (a b : List Nat) (m n n' : Nat) (v : Value) (w : World) (i : Value) (wr : World) : Prop := ∃ (j : Nat) (o : List Nat), i = .int .i64 (j : Int) ∧ j ≤ n ∧ ON wr w.heap.size v o ∧ o.length = m ∧ Hid (Wd o) ∧ Hid (wv o = wv (a.take j) * wv b) ∧ Hid (∀ t (_ : t < o.length), j + n' ≤ t → o[t] = 0) ∧ Below w.heap.size w wr
def TX2 (a b : List Nat) (m n' j x : Nat) (v : Value) (w : World) (cv i : Value) (wr : World) : Prop := ∃ (k c : Nat) (o : List Nat), i = .int .i64 (k : Int) ∧ k ≤ n' ∧ cv = .int .u64 (c : Int) ∧ c < 4294967296 ∧ ON wr w.heap.size v o ∧ o.length = m ∧ Hid (Wd o) ∧ Hid (wv o + bs (j + k) * c = wv (a.take j) * wv b + bs j * (x * wv (b.take k))) ∧ Hid (∀ t (_ : t < o.length), j + n' ≤ t → o[t] = 0) ∧ Below w.heap.size w wr

set_option maxRecDepth 100000 in
set_option maxHeartbeats 1600000 in
theorem times_any {A A' : Option Addr} {n n' cap cap' B B' : Nat} {a b : List Nat} {w : World} (hn : Hid (n = a.length)) (hn' : Hid (n' = b.length)) (hs : n ≤ 1000000) (hs' : n' ≤ 1000000) (hB : B ≤ w.heap.size) (hB' : B' ≤ w.heap.size) (ha : WR w B A a) (hb : WR w B' A' b) (wa : Hid (Wd a)) (wb : Hid (Wd b)) :
    Calls Try.prog 49 #[.slice A n cap, .slice A' n' cap'] w (NO w (wv a * wv b)) := by
  have hmk : ∀ u : World, (Instr.makeSlice 51 (.int .i64 ((n : Int) + (n' : Int))) (.int .i64 ((n : Int) + (n' : Int)))).run Try.prog u =
      .ok (.slice (some ⟨u.heap.size, 0, none⟩) (n + n') (n + n')) (u.alloc (.cells (madeCells #[.int .u32 0] (n + n')) 22)) := fun u => by
    have := run_make_nat u (m := n + n') (by omega)
    simpa using this
  go_enter Try.func49, Try.ntmps49
  go_wp2
  go_loopw [6] (fun i wr => TX1 a b (n + n') n n' (.slice (some ⟨w.heap.size, 0, none⟩) (n + n') (n + n')) w i wr) (fun i _ => n - (intOf i).toNat)
  case atStart => exact ⟨0, List.replicate (n + n') 0, rfl, Nat.zero_le _, ON.make w (by unfold maxLen; omega), by simp, Lib.hid (fun d h => by rw [List.eq_of_mem_replicate h]; omega), Lib.hid (by simp [wv_rep, wv]), Lib.hid (fun t h _ => by simp), (Below.refl w.heap.size w).alloc (Nat.le_refl _) _⟩
  case round =>
    obtain ⟨j, o, rfl, hj, hown, hol, HW, HV, HZ, hbel⟩ := hrel
    have hsz := hbel.size
    by_cases hlt : j < n
    · have hja : j < a.length := by rw [← hn.out]; exact hlt
      obtain ⟨ba, oa, rfl, hba, a0'⟩ := ha.at_ hja
      have hx : a[j] < 4294967296 := wa.out _ (List.getElem_mem hja)
      have HX := Lib.hid (take_in hja)
      generalize a[j] = x at *
      clear hja
      have hlt' : (j : Int) < (n : Int) := by omega
      go_wp2
      go_loopw [7, 8] (fun cv i wr => TX2 a b (n + n') n' j x (.slice (some ⟨w.heap.size, 0, none⟩) (n + n') (n + n')) w cv i wr) (fun _ i _ => n' - (intOf i).toNat)
      case atStart => exact ⟨0, 0, o, rfl, Nat.zero_le _, rfl, by omega, hown, hol, HW, Lib.hid (by rw [HV.out]; simp [wv]), HZ, hbel⟩
      case round =>
        clear hown hol HW HV HZ hbel hsz
        obtain ⟨k, c, o, rfl, hk, rfl, hc, hown, hol, HW, HV, HZ, hbel⟩ := hrel
        have hsz := hbel.size
        by_cases hkt : k < n'
        · have hkb : k < b.length := by rw [← hn'.out]; exact hkt
          obtain ⟨bb, ob, rfl, hbb, b0'⟩ := hb.at_ hkb
          have a0 := (hbel.cell (p := ⟨ba, _, none⟩) (by show ba < w.heap.size; omega)).trans a0'
          have b0 := (hbel.cell (p := ⟨bb, _, none⟩) (by show bb < w.heap.size; omega)).trans b0'
          clear b0'
          have hy : b[k] < 4294967296 := wb.out _ (List.getElem_mem hkb)
          have HY := Lib.hid (take_in hkb)
          generalize b[k] = y at *
          clear hkb
          have hjk : j + k < o.length := by omega
          obtain ⟨gd, hgd, -, c0, f0⟩ := hown.at_ hjk
          simp only [Option.some.injEq, Addr.mk.injEq, and_true] at hgd
          subst hgd
          have hz : o[j + k] < 4294967296 := HW.out _ (List.getElem_mem hjk)
          have HS := Lib.hid (times_step (x := x) (y := y) hjk HV.out)
          have hbig := times_big hx hy hz hc
          have hkt' : (k : Int) < (n' : Int) := by omega
          have hk1 : k + 1 ≤ n' := hkt
          have HO := Lib.hid hown
          generalize o[j + k] = z at *
          have hlen2 : j + k < n + n' := by omega
          go_wp2
          go_quiet (fail)
          go_wp2
          go_roundw
          case rel => exact ⟨k + 1, (x * y + z + c) / 4294967296, o.set (j + k) ((x * y + z + c) % 4294967296), by go_num, hk1, by simp, by omega, by simpa using ON.set (show ON (wr.drewN nq) _ _ _ from HO.out) (j + k) ((x * y + z + c) % 4294967296), by rw [List.length_set]; exact hol, Lib.hid (fun d hd => by
              rcases List.mem_or_eq_of_mem_set hd with e | e
              · exact HW.out d e
              · rw [e]; omega), Lib.hid (by rw [show j + (k + 1) = j + k + 1 from rfl, HS.out, inner_law HY.out, Nat.add_assoc]), Lib.hid (fun t ht htt => by rw [List.getElem_set_ne (by omega)]; exact HZ.out t (by simpa using ht) htt), (below_drewN hbel nq).setCell (Nat.le_refl _) _⟩
          case measure => simp [intOf]; omega
        · have hkn : k = n' := by omega
          subst hkn
          have hjk : j + k < o.length := by omega
          have h00 : o[j + k] = 0 := HZ.out _ hjk (Nat.le_refl _)
          obtain ⟨gd, hgd, -, c0, f0⟩ := hown.at_ hjk
          simp only [Option.some.injEq, Addr.mk.injEq, and_true] at hgd
          subst hgd
          have HS : Hid (wv (o.set (j + k) c) = wv (a.take (j + 1)) * wv b) := Lib.hid (by
            have h1 := wv_set (d := c) hjk
            have hbt : b.take k = b := List.take_of_length_le (by rw [← hn'.out]; exact Nat.le_refl _)
            rw [h00, Nat.mul_zero, Nat.add_zero, HV.out, hbt] at h1
            rw [h1, HX.out, Nat.add_mul, Nat.mul_assoc])
          have HO := Lib.hid hown
          have hkt' : ¬ (k : Int) < (k : Int) := by omega
          have hj1 : j + 1 ≤ n := hlt
          have hlen2 : j + k < n + k := by omega
          rw [h00] at c0
          clear h00
          go_wp2
          go_roundw
          case rel => exact ⟨j + 1, o.set (j + k) c, by go_num, hj1, by simpa using ON.set HO.out (j + k) c, by rw [List.length_set]; exact hol, Lib.hid (fun d hd => by
              rcases List.mem_or_eq_of_mem_set hd with e | e
              · exact HW.out d e
              · rw [e]; exact hc), HS, Lib.hid (fun t ht htt => by rw [List.getElem_set_ne (by omega)]; exact HZ.out t (by simpa using ht) (by omega)), hbel.setCell (Nat.le_refl _) _⟩
          case measure => simp [intOf]; omega
    · have hlt' : ¬ (j : Int) < (n : Int) := by omega
      have HF : Hid (wv o = wv a * wv b) := Lib.hid (by rw [HV.out, List.take_of_length_le (by rw [← hn.out]; omega)])
      obtain ⟨A2, n2, c2, e2, hn2, hl2, hm2, hr2⟩ := hown.form
      injection e2 with e3 e4 e5
      subst e3 e4 e5
      go_wp2_with fail
      refine (trim_any hn2 hl2 hm2 hr2).mono ?_
      rintro e w' ⟨k', rfl, hk', hz, ht, rfl⟩
      go_wp2
      go_ret
      exact NO.mk hk' (by have := hn2.out; omega) hm2 hz ht hr2 HW.out HF.out hbel
end Go.Proofs.Ytanccobllehnaaa
