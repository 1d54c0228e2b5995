/- Contracts of fixed and Varint, of the program and of the document's answer: what is answered is a row of bytes of the call's own. -/
import Derived.Test.YthhanpfcnaokpaaMem
import Derived.Test.YthhanpfcnaokpaaPlain
namespace Go.Proofs.Ythhanpfcnaokpaa
open Go.RowKit

/-- a row of bytes is answered; of what was there nothing has turned -/
def MadeB (w : World) (l : List UInt8) (e : Ending) (w' : World) : Prop := ∃ v, e = .returned v ∧ OB w' w.heap.size v l ∧ Below w.heap.size w w'

/-- the loop of Varint -/
def VIrel (x : Nat) (w : World) (xv out : Value) (wr : World) : Prop := ∃ k y o, xv = .int .u64 (y : Nat) ∧ VI x k y o ∧ OB wr w.heap.size out o ∧ Below w.heap.size w wr

set_option maxHeartbeats 400000 in
theorem varint_any (x : Nat) (hx : x < 18446744073709551616) (w : World) :
    Calls Try.prog 13 #[.int .u64 x] w (MadeB w (vi x)) := by
  go_enter Try.func13, Try.ntmps13
  have hs := VI.start x hx
  clear hx
  go_wp2
  go_loopw [0, 3] (fun xv out wr => VIrel x w xv out wr) (fun xv _ _ => (intOf xv).toNat)
  case atStart => exact ⟨0, x, [], rfl, hs, OB.nil _ _, Below.refl _ _⟩
  case round =>
    obtain ⟨k, y, o, rfl, hv, hown, hb⟩ := hrel
    have hlen := hv.2.2.2
    have hk := hv.1
    have hsz := hb.size
    have HN := Lib.hid (u8_or128' y)
    by_cases hy : y < 128
    · have hy1 : ¬ (127 < (y : Int)) := by omega
      have HU := Lib.hid (u8_of y hy)
      have HL := Lib.hid (hv.last hy)
      clear hs hv
      go_wp2_with (at_builtin; refine append_byte rfl _ _ rfl hown rfl rfl rfl (UInt8.ofNat y) HU.out (by omega) hsz ?_; intro v' w' ho hg ha)
      go_ret
      exact ⟨_, rfl, by rw [HL.out]; exact ho, grown_below hown hg hsz (Nat.le_refl _) hb⟩
    · have hy1 : 127 < (y : Int) := by omega
      have HV := Lib.hid (hv.more hy)
      clear hs hv
      go_wp2_with (at_builtin; refine append_byte rfl _ _ rfl hown rfl rfl rfl _ HN.out (by omega) hsz ?_; intro v' w' ho hg ha)
      go_roundw
      case rel => exact ⟨_, _, _, rfl, HV.out, ho, grown_below hown hg hsz (Nat.le_refl _) hb⟩
      case measure => simp [intOf]; omega

set_option maxHeartbeats 400000 in
theorem rvarint_any (x : Nat) (hx : x < 18446744073709551616) (w : World) :
    Calls Try.prog 18 #[.int .u64 x] w (MadeB w (vi x)) := by
  go_enter Try.func18, Try.ntmps18
  have hs := VI.start x hx
  clear hx
  go_wp2
  go_loopw [0, 3] (fun xv out wr => VIrel x w xv out wr) (fun xv _ _ => (intOf xv).toNat)
  case atStart => exact ⟨0, x, [], rfl, hs, OB.nil _ _, Below.refl _ _⟩
  case round =>
    obtain ⟨k, y, o, rfl, hv, hown, hb⟩ := hrel
    have hlen := hv.2.2.2
    have hk := hv.1
    have hsz := hb.size
    have HN := Lib.hid (u8_add128' y)
    by_cases hy : y < 128
    · have hy1 : ¬ (128 ≤ (y : Int)) := by omega
      have HU := Lib.hid (u8_of y hy)
      have HL := Lib.hid (hv.last hy)
      clear hs hv
      go_wp2_with (at_builtin; refine append_byte rfl _ _ rfl hown rfl rfl rfl (UInt8.ofNat y) HU.out (by omega) hsz ?_; intro v' w' ho hg ha)
      go_ret
      exact ⟨_, rfl, by rw [HL.out]; exact ho, grown_below hown hg hsz (Nat.le_refl _) hb⟩
    · have hy1 : 128 ≤ (y : Int) := by omega
      have HV := Lib.hid (hv.more hy)
      have HD := Lib.hid (show IntKind.u64.wrap ((y : Int) / 128) = ((y / 128 : Nat) : Int) from wrap_div y 128 hv.le)
      clear hs hv
      go_wp2_with (at_builtin; refine append_byte rfl _ _ rfl hown rfl rfl rfl _ HN.out (by omega) hsz ?_; intro v' w' ho hg ha)
      go_roundw
      case rel => exact ⟨_, _, _, congrArg _ HD.out, HV.out, ho, grown_below hown hg hsz (Nat.le_refl _) hb⟩
      case measure => have := HD.out; simp only [intOf] at this ⊢; rw [this]; omega

/-- the loop of fixed -/
def FXrel (x : Nat) (n : Nat) (w : World) (i out : Value) (wr : World) : Prop := ∃ k : Nat, k ≤ n ∧ i = .int .i64 (k : Int) ∧ OB wr w.heap.size out (fix8 x k) ∧ Below w.heap.size w wr

set_option maxHeartbeats 400000 in
theorem fixed_any (x n : Nat) (hn : n ≤ 8) (w : World) :
    Calls Try.prog 40 #[.int .u64 x, .int .i64 n] w (MadeB w (fix8 x n)) := by
  go_enter Try.func40, Try.ntmps40
  go_wp2
  go_loopw [5, 8] (fun out i wr => FXrel x n w i out wr) (fun _ i _ => n - (intOf i).toNat)
  case atStart => exact ⟨0, Nat.zero_le _, rfl, OB.nil _ _, Below.refl _ _⟩
  case round =>
    obtain ⟨k, hk, rfl, hown, hb⟩ := hrel
    have hlen := fix8_len x k
    have hsz := hb.size
    by_cases hlt : k < n
    · have HN := Lib.hid (u8_shr x k)
      have HS := Lib.hid (fix8_succ x k)
      go_wp2_with (at_builtin; refine append_byte rfl _ _ rfl hown rfl rfl rfl _ HN.out (by omega) hsz ?_; intro v' w' ho hg ha)
      go_roundw
      case rel => exact ⟨k + 1, by omega, by go_num, by rw [HS.out]; exact ho, grown_below hown hg hsz (Nat.le_refl _) hb⟩
      case measure => simp [intOf]; omega
    · obtain rfl : k = n := by omega
      go_wp2
      go_ret
      exact ⟨_, rfl, hown, hb⟩

/-- the loop of the document's fixed -/
def RFXrel (x : Nat) (n : Nat) (w : World) (xv i out : Value) (wr : World) : Prop := ∃ k y : Nat, k ≤ n ∧ i = .int .i64 (k : Int) ∧ xv = .int .u64 (y : Int) ∧ y = x / 256 ^ k ∧ OB wr w.heap.size out (fix8 x k) ∧ Below w.heap.size w wr

set_option maxHeartbeats 400000 in
theorem rfixed_any (x n : Nat) (hx : x < 18446744073709551616) (hn : n ≤ 8) (w : World) :
    Calls Try.prog 42 #[.int .u64 x, .int .i64 n] w (MadeB w (fix8 x n)) := by
  have HX := Lib.hid hx
  clear hx
  go_enter Try.func42, Try.ntmps42
  go_wp2
  go_loopw [0, 5, 6] (fun xv out i wr => RFXrel x n w xv i out wr) (fun _ _ i _ => n - (intOf i).toNat)
  case atStart => exact ⟨0, x, Nat.zero_le _, rfl, rfl, by simp, OB.nil _ _, Below.refl _ _⟩
  case round =>
    obtain ⟨k, y, hk, rfl, rfl, hy, hown, hb⟩ := hrel
    have hlen := fix8_len x k
    have hsz := hb.size
    by_cases hlt : k < n
    · have HN := Lib.hid (u8_mod y)
      have HS := Lib.hid (fix8_succ x k)
      have HY := Lib.hid hy
      have HD := Lib.hid (show IntKind.u64.wrap ((y : Int) / 256) = ((y / 256 : Nat) : Int) from wrap_div y 256 (by rw [hy]; exact Nat.lt_of_le_of_lt (Nat.div_le_self _ _) HX.out))
      clear hy
      go_wp2_with (at_builtin; refine append_byte rfl _ _ rfl hown rfl rfl rfl _ HN.out (by omega) hsz ?_; intro v' w' ho hg ha)
      go_roundw
      case rel => exact ⟨k + 1, _, by omega, by go_num, congrArg _ HD.out, by rw [HY.out, fix8_div], by rw [HS.out, ← HY.out]; exact ho, grown_below hown hg hsz (Nat.le_refl _) hb⟩
      case measure => simp [intOf]; omega
    · obtain rfl : k = n := by omega
      clear hy
      go_wp2
      go_ret
      exact ⟨_, rfl, hown, hb⟩

/-- a bool is answered; at most the tape has been asked -/
def SaysQ (w : World) (b : Bool) (e : Ending) (w' : World) : Prop := e = .returned (.bool b) ∧ ∃ n, w' = w.drewN n

theorem take_same {a b : List UInt8} {k : Nat} (h : k < a.length) (h' : k < b.length) (ht : a.take k = b.take k) (hc : a[k] = b[k]) : a.take (k + 1) = b.take (k + 1) := by
  rw [List.take_succ_eq_append_getElem h, List.take_succ_eq_append_getElem h', ht, hc]

/-- the loop of SameBytes -/
def SBrel (a b : List UInt8) (w : World) (i : Value) (wr : World) : Prop := ∃ k n : Nat, k ≤ a.length ∧ i = .int .i64 (k : Int) ∧ a.take k = b.take k ∧ wr = w.drewN n

set_option maxHeartbeats 400000 in
theorem sameb_any (B : Nat) (A A' : Option Addr) (cap cap' : Nat) (a b : List UInt8) (w : World) (ha : RB w B A a) (hb : RB w B A' b) (hm : a.length ≤ maxLen) (hm' : b.length ≤ maxLen) :
    Calls Try.prog 17 #[.slice A a.length cap, .slice A' b.length cap'] w (SaysQ w (decide (a = b))) := by
  unfold maxLen at hm hm'
  by_cases hl : a.length = b.length
  · have hl1 : ((a.length : Int) != (b.length : Int)) = false := by rw [bne_eq_false_iff_eq]; omega
    have HL := Lib.hid hl
    go_enter Try.func17, Try.ntmps17
    clear hl
    go_wp2
    go_loopw [5] (fun i wr => SBrel a b w i wr) (fun i _ => a.length - (intOf i).toNat)
    case atStart => exact ⟨0, 0, Nat.zero_le _, rfl, rfl, rfl⟩
    case round =>
      obtain ⟨k, n, hk, rfl, ht, rfl⟩ := hrel
      have HT := Lib.hid ht
      clear ht
      by_cases hlt : k < a.length
      · have hlt' : k < b.length := by have := HL.out; omega
        obtain ⟨ba, oa, rfl, -, hca⟩ := ha.at_ hlt
        obtain ⟨bb, ob, rfl, -, hcb⟩ := hb.at_ hlt'
        have hlz : (k : Int) < (b.length : Int) := by omega
        have hly : (k : Int) < (a.length : Int) := by omega
        by_cases hc : a[k] = b[k]
        · have HS := Lib.hid (take_same hlt hlt' HT.out hc)
          have he : ((a[k].toNat : Int) != (b[k].toNat : Int)) = false := by rw [hc]; simp
          clear hc HT
          generalize a[k].toNat = x at *
          generalize b[k].toNat = y at *
          go_wp2
          go_quiet (fail)
          go_wp2
          go_roundw
          case rel => exact ⟨k + 1, _, by omega, by go_num, HS.out, rfl⟩
          case measure => simp [intOf]; omega
        · have HD := Lib.hid (show decide (a = b) = false from decide_eq_false (fun e => hc (by subst e; rfl)))
          have he : ((a[k].toNat : Int) != (b[k].toNat : Int)) = true := by
            rw [bne_iff_ne]; intro e; exact hc (UInt8.toNat_inj.1 (by omega))
          clear hc HT
          generalize a[k].toNat = x at *
          generalize b[k].toNat = y at *
          go_wp2
          go_quiet (fail)
          go_wp2
          go_ret
          exact ⟨by rw [HD.out]; rfl, _, World.drewN_drewN _ _ _⟩
      · have HD := Lib.hid (show decide (a = b) = true from decide_eq_true (by have := HT.out; have h2 := HL.out; rwa [List.take_of_length_le (by omega), List.take_of_length_le (by omega)] at this))
        go_wp2
        go_ret
        exact ⟨by rw [HD.out]; rfl, n, rfl⟩
  · have hl1 : ((a.length : Int) != (b.length : Int)) = true := by rw [bne_iff_ne]; omega
    have HD := Lib.hid (show decide (a = b) = false from decide_eq_false (fun e => hl (by rw [e])))
    clear hl
    go_enter Try.func17, Try.ntmps17
    go_wp2
    go_ret
    exact ⟨by rw [HD.out]; rfl, 0, rfl⟩
end Go.Proofs.Ythhanpfcnaokpaa
