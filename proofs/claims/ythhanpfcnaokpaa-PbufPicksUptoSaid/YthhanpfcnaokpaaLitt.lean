/- Contracts of little and ReadVarint, of the program and of the document's answer. -/
import Derived.Test.YthhanpfcnaokpaaMem
import Derived.Test.YthhanpfcnaokpaaPlain
namespace Go.Proofs.Ythhanpfcnaokpaa
open Go.RowKit

set_option maxHeartbeats 400000 in
theorem rlittle_any (B : Nat) (A : Option Addr) (cap : Nat) (l : List UInt8) (w : World) (hl : l.length ≤ 8) (hb : RB w B A l) :
    Calls Try.prog 44 #[.slice A l.length cap] w fun e w' => e = .returned (.int .u64 (lit8 l : Int)) ∧ w = w' := by
  go_enter Try.func44, Try.ntmps44
  go_wp2
  go_loop [3, 4] (fun x i => ∃ k : Nat, k ≤ l.length ∧ i = .int .i64 ((k : Int) - 1) ∧ x = .int .u64 (lit8 (l.drop k) : Int)) (fun _ i => (intOf i + 1).toNat)
  case atStart => exact ⟨l.length, Nat.le_refl _, rfl, by simp [lit8]⟩
  case round =>
    obtain ⟨k, hk, rfl, rfl⟩ := hrel
    cases k with
    | zero =>
      go_wp2
      go_ret
      exact ⟨by simp, rfl⟩
    | succ k =>
      obtain ⟨b, off, rfl, -, hc⟩ := hb.at_ (k := k) (by omega)
      have hlt := (l[k]).toNat_lt
      have hd := lit8_drop l k hk
      have h8 := lit8_lt64 (l.drop k) (by simp; omega)
      have HD := Lib.hid hd
      have hy : lit8 (l.drop (k + 1)) * 256 + l[k].toNat < 18446744073709551616 := by omega
      clear hd h8
      go_wp2
      go_round
      case rel => exact ⟨k, by omega, rfl, by rw [HD.out]; go_num⟩
      case measure => simp [intOf]

set_option maxHeartbeats 400000 in
theorem little_any (B : Nat) (A : Option Addr) (cap : Nat) (l : List UInt8) (w : World) (hl : l.length ≤ 8) (hb : RB w B A l) :
    Calls Try.prog 43 #[.slice A l.length cap] w fun e w' => e = .returned (.int .u64 (lit8 l : Int)) ∧ w = w' := by
  go_enter Try.func43, Try.ntmps43
  go_wp2
  go_loop [3, 8] (fun x i => ∃ k : Nat, k ≤ l.length ∧ i = .int .i64 (k : Int) ∧ x = .int .u64 (lit8 (l.take k) : Int)) (fun _ i => l.length - (intOf i).toNat)
  case atStart => exact ⟨0, Nat.zero_le _, rfl, by simp [lit8]⟩
  case round =>
    obtain ⟨k, hk, rfl, rfl⟩ := hrel
    by_cases hlt : k < l.length
    · obtain ⟨b, off, rfl, -, hc⟩ := hb.at_ hlt
      have hd := lit8_take l k hlt
      have hj := lit8_join l k hlt hl
      have HD := Lib.hid hd
      have HJ := Lib.hid hj
      have hb := (l[k]).toNat_lt
      clear hd hj
      go_wp2
      go_round
      case rel => exact ⟨k + 1, by omega, by go_num, by rw [HD.out, ← HJ.out]⟩
      case measure => simp [intOf]; omega
    · go_wp2
      go_ret
      exact ⟨ret_int (by rw [List.take_of_length_le (by omega)]), rfl⟩

/-- three results of ReadVarint -/
def rvVal (r : Nat × Int × Int) : Value := .tuple #[.int .u64 r.1, .int .i64 r.2.1, .int .i64 r.2.2]
theorem rv_fin {r : Nat × Int × Int} {x : Nat} {m a c : Int} (hr : r = (x, m, 0)) (h1 : a = x) (h2 : c = m) : Ending.returned (.tuple #[.int .u64 a, .int .i64 c, .int .i64 0]) = .returned (rvVal r) := by
  rw [hr, h1, h2]; rfl

set_option maxRecDepth 100000 in
set_option maxHeartbeats 400000 in
theorem rdvar_any (B : Nat) (A : Option Addr) (cap : Nat) (l : List UInt8) (p : Int) (w : World) (hcap : l.length ≤ cap) (hm : cap ≤ maxLen) (hb : RB w B A l) :
    Calls Try.prog 15 #[.slice A l.length cap, .int .i64 p] w fun e w' => e = .returned (rvVal (rvar l p)) ∧ w = w' := by
  unfold maxLen at hm
  by_cases h0 : p < 0
  · go_enter Try.func15, Try.ntmps15
    go_wp2
    go_ret3
    exact ⟨by rw [rvar_out (.inl h0)]; rfl, rfl⟩
  by_cases h1 : (l.length : Int) < p
  · go_enter Try.func15, Try.ntmps15
    go_wp2
    go_ret3
    exact ⟨by rw [rvar_out (.inr h1)]; rfl, rfl⟩
  obtain ⟨q, rfl⟩ := Int.eq_ofNat_of_zero_le (by omega : 0 ≤ p)
  have hq : q ≤ l.length := by omega
  have hcut := hb.cutA (k := q) hq hcap
  clear h0 h1
  have hq0 : decide ((q : Int) < 0) = false := by simp
  have hq1 : decide (l.length < q) = false := by simp; omega
  go_enter Try.func15, Try.ntmps15
  go_wp2
  generalize cutA A cap q = A' at hcut ⊢
  clear hq0 hq1
  go_loop [7, 22] (fun x i => ∃ k n : Nat, i = .int .i64 (k : Int) ∧ x = .int .u64 (n : Int) ∧ RV (l.drop q) k n) (fun _ i => l.length - (intOf i).toNat)
  case atStart => exact ⟨0, 0, rfl, rfl, RV.start _⟩
  case round =>
    obtain ⟨k, n, rfl, rfl, hv⟩ := hrel
    have hk := hv.1
    have hdl : (l.drop q).length = l.length - q := by simp
    have hk9 := hv.2.1
    rw [hdl] at hk
    clear hdl
    by_cases hlt : k < l.length - q
    · have hlt' : k < (l.drop q).length := by simpa using hlt
      obtain ⟨b, off, rfl, -, hc⟩ := hcut.at_ hlt'
      have hb8 := (l.drop q)[k].toNat_lt
      by_cases h9 : k = 9 ∧ 1 < (l.drop q)[k].toNat
      · have HR := Lib.hid (rvar_none hq (hv.bad hlt' h9.1 h9.2))
        obtain ⟨h9, h91⟩ := h9
        subst h9
        generalize (l.drop q)[9].toNat = c at *
        clear hv
        go_wp2
        go_ret3
        exact ⟨by rw [HR.out]; rfl, rfl⟩
      · have HJ := Lib.hid (hv.join hlt' h9)
        have e1 := u8_and127 _ hb8
        by_cases hc8 : (l.drop q)[k].toNat < 128
        · have HR := Lib.hid (rvar_some hq (hv.last hlt' h9 hc8))
          generalize (l.drop q)[k].toNat = c at *
          by_cases h99 : k = 9
          · subst h99
            have hc1 : ¬ (1 < (c : Int)) := by omega
            have E3 := Lib.hid (wrap_two63 c hc8 (by omega))
            clear hv h9
            go_wp2
            go_ret3
            exact ⟨rv_fin HR.out ((E3.out ▸ HJ.out).trans (by rw [Nat.mod_eq_of_lt hc8])) (by omega), rfl⟩
          · have hk99 : ((k : Int) == 9) = false := by simp; omega
            clear hv h9 h99
            go_wp2
            go_ret3
            exact ⟨rv_fin HR.out (HJ.out.trans (by rw [Nat.mod_eq_of_lt hc8])) (by omega), rfl⟩
        · have HV := Lib.hid (hv.more hlt' h9 hc8)
          generalize (l.drop q)[k].toNat = c at *
          have hk99 : ((k : Int) == 9) = false := by simp; omega
          clear hv h9
          go_wp2
          go_round
          case rel => exact ⟨k + 1, _, by go_num, by rw [HJ.out, show c % 128 = c - 128 by omega], HV.out⟩
          case measure => simp [intOf]; omega
    · have HR := Lib.hid (rvar_none hq (hv.none_ (by simp; omega)))
      clear hv
      go_wp2
      go_ret3
      exact ⟨by rw [HR.out]; rfl, rfl⟩

set_option maxRecDepth 100000 in
set_option maxHeartbeats 400000 in
theorem rrdvar_any (B : Nat) (A : Option Addr) (cap : Nat) (l : List UInt8) (p : Int) (w : World) (hcap : l.length ≤ cap) (hm : cap ≤ maxLen) (hb : RB w B A l) :
    Calls Try.prog 16 #[.slice A l.length cap, .int .i64 p] w fun e w' => e = .returned (rvVal (rvar l p)) ∧ w = w' := by
  unfold maxLen at hm
  by_cases h0 : p < 0
  · go_enter Try.func16, Try.ntmps16
    go_wp2
    go_ret3
    exact ⟨by rw [rvar_out (.inl h0)]; rfl, rfl⟩
  by_cases h1 : (l.length : Int) < p
  · go_enter Try.func16, Try.ntmps16
    go_wp2
    go_ret3
    exact ⟨by rw [rvar_out (.inr h1)]; rfl, rfl⟩
  obtain ⟨q, rfl⟩ := Int.eq_ofNat_of_zero_le (by omega : 0 ≤ p)
  have hq : q ≤ l.length := by omega
  clear h0 h1
  have hq0 : decide ((q : Int) < 0) = false := by simp
  have hq1 : decide (l.length < q) = false := by simp; omega
  go_enter Try.func16, Try.ntmps16
  go_wp2
  clear hq0 hq1
  go_loop [7, 8, 9] (fun x u i => ∃ k n : Nat, i = .int .i64 (k : Int) ∧ x = .int .u64 (n : Int) ∧ u = .int .u64 ((unit k : Nat) : Int) ∧ RV (l.drop q) k n) (fun _ _ i => l.length - (intOf i).toNat)
  case atStart => exact ⟨0, 0, rfl, rfl, rfl, RV.start _⟩
  case round =>
    obtain ⟨k, n, rfl, rfl, rfl, hv⟩ := hrel
    have hk := hv.1
    have hdl : (l.drop q).length = l.length - q := by simp
    have hk9 := hv.2.1
    rw [hdl] at hk
    clear hdl
    by_cases hlt : k < l.length - q
    · have hlt' : k < (l.drop q).length := by simpa using hlt
      have hge := List.getElem_drop (xs := l) (i := q) (j := k) (h := hlt')
      obtain ⟨b, off, rfl, -, hc⟩ := hb.at_ (k := q + k) (by omega)
      rw [← hge] at hc
      clear hge
      have hb8 := (l.drop q)[k].toNat_lt
      by_cases h9 : k = 9 ∧ 1 < (l.drop q)[k].toNat
      · have HR := Lib.hid (rvar_none hq (hv.bad hlt' h9.1 h9.2))
        obtain ⟨h9, h91⟩ := h9
        subst h9
        generalize (l.drop q)[9].toNat = c at *
        clear hv
        go_wp2
        go_ret3
        exact ⟨by rw [HR.out]; rfl, rfl⟩
      · have HJ := Lib.hid (hv.rjoin hlt' h9)
        have HU := Lib.hid (unit_succ k)
        by_cases hc8 : (l.drop q)[k].toNat < 128
        · have HR := Lib.hid (rvar_some hq (hv.last hlt' h9 hc8))
          generalize (l.drop q)[k].toNat = c at *
          by_cases h99 : k = 9
          · subst h99
            have hc1 : ¬ (1 < (c : Int)) := by omega
            generalize unit 9 = y at *
            clear hv h9
            go_wp2
            go_ret3
            exact ⟨rv_fin HR.out (HJ.out.trans (by rw [Nat.mod_eq_of_lt hc8])) (by omega), rfl⟩
          · have hk99 : ((k : Int) == 9) = false := by simp; omega
            generalize unit k = y at *
            clear hv h9 h99
            go_wp2
            go_ret3
            exact ⟨rv_fin HR.out (HJ.out.trans (by rw [Nat.mod_eq_of_lt hc8])) (by omega), rfl⟩
        · have HV := Lib.hid (hv.more hlt' h9 hc8)
          generalize (l.drop q)[k].toNat = c at *
          have hk99 : ((k : Int) == 9) = false := by simp; omega
          generalize unit k = y at *
          clear hv h9
          go_wp2
          go_round
          case rel => exact ⟨k + 1, _, by go_num, by rw [HJ.out, show c % 128 = c - 128 by omega], by rw [HU.out], HV.out⟩
          case measure => simp [intOf]; omega
    · have HR := Lib.hid (rvar_none hq (hv.none_ (by simp; omega)))
      clear hv
      go_wp2
      go_ret3
      exact ⟨by rw [HR.out]; rfl, rfl⟩
end Go.Proofs.Ythhanpfcnaokpaa
