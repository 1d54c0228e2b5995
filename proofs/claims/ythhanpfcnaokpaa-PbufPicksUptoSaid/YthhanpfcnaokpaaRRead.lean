/- The contract of latticeref06.Read. -/
import Derived.Test.YthhanpfcnaokpaaOne
namespace Go.Proofs.Ythhanpfcnaokpaa
open Go.RowKit

theorem one_any (B : Nat) (A : Option Addr) (cap : Nat) (l : List UInt8) (p : Nat) (w : World) (hp : p ≤ l.length) (hcap : l.length ≤ cap) (hm : cap ≤ maxLen) (hb : RB w B A l) (hB : B ≤ w.heap.size) (h47 : l.length ≤ 140737488355328) :
    Calls Try.prog 38 #[.slice A l.length cap, .int .i64 p] w (OneR w (rdF l p)) := by
  cases ht : rdv 0 (l.drop p) with
  | none => exact one_none B A cap l p w hp hcap hm hb hB ht
  | some r =>
    obtain ⟨tag, n⟩ := r
    by_cases hbad : tag / 8 < 1 ∨ 536870911 < tag / 8
    · exact one_bad B A cap l p w hp hcap hm hb hB ht hbad
    by_cases h0 : tag % 8 = 0
    · exact one0 B A cap l p w hp hcap hm hb hB ht hbad h0
    by_cases h1 : tag % 8 = 1
    · exact one1 B A cap l p w hp hcap hm hb hB ht hbad h1
    by_cases h2 : tag % 8 = 2
    · exact one2 B A cap l p w hp hcap hm hb hB ht hbad h2 h47
    by_cases h5 : tag % 8 = 5
    · exact one5 B A cap l p w hp hcap hm hb hB ht hbad h5
    exact onex B A cap l p w hp hcap hm hb hB ht hbad h0 h1 ⟨h2, h5⟩

theorem one_no {B : Nat} {A : Option Addr} {cap : Nat} {l : List UInt8} {p : Nat} {w : World} (hr : Hid (rdF l p = none)) (hp : p ≤ l.length) (hcap : l.length ≤ cap) (hm : cap ≤ maxLen) (hb : RB w B A l) (hB : B ≤ w.heap.size) (h47 : l.length ≤ 140737488355328) :
    Calls Try.prog 38 #[.slice A l.length cap, .int .i64 p] w fun e w' => ∃ n0 n1 n2 A n c nx, Below w.heap.size w w' ∧ e = .returned (.tuple #[.agg #[.int .i64 n0, .int .i64 n1, .int .u64 n2, .slice A n c], .int .i64 nx, .bool false]) := by
  refine (one_any B A cap l p w hp hcap hm hb hB h47).mono ?_
  intro e w' h
  rw [hr.out] at h
  exact h
theorem one_yes {B : Nat} {A : Option Addr} {cap : Nat} {l : List UInt8} {p q : Nat} {f : Fld} {w : World} (hr : Hid (rdF l p = some (f, q))) (hp : p ≤ l.length) (hcap : l.length ≤ cap) (hm : cap ≤ maxLen) (hb : RB w B A l) (hB : B ≤ w.heap.size) (h47 : l.length ≤ 140737488355328) :
    Calls Try.prog 38 #[.slice A l.length cap, .int .i64 p] w fun e w' => ∃ A n c, OB w' w.heap.size (.slice A n c) f.data ∧ Below w.heap.size w w' ∧ e = .returned (.tuple #[.agg #[.int .i64 f.num, .int .i64 f.wire, .int .u64 (f.x : Int), .slice A n c], .int .i64 (q : Int), .bool true]) := by
  refine (one_any B A cap l p w hp hcap hm hb hB h47).mono ?_
  intro e w' h
  rw [hr.out] at h
  exact h

/-- the loop of the document's Read -/
def RRDrel (l : List UInt8) (w : World) (out p : Value) (wr : World) : Prop := ∃ fs q, p = .int .i64 (q : Nat) ∧ RD l fs q ∧ OF wr w.heap.size 55 out fs ∧ Below w.heap.size w wr

set_option maxRecDepth 100000 in
set_option maxHeartbeats 800000 in
theorem rread_any (A : Option Addr) (cap : Nat) (l : List UInt8) (w : World) (hcap : l.length ≤ cap) (hm : cap ≤ maxLen) (hb : RB w w.heap.size A l) :
    Calls Try.prog 21 #[.slice A l.length cap] w (ReadR w 55 (readE l)) := by
  have hm' := hm
  unfold maxLen at hm
  by_cases hlim : 4194304 < l.length
  · have HE := Lib.hid (show readE l = ([], 8) by simp [readE, hlim])
    go_enter Try.func21, Try.ntmps21
    go_wp2
    go_ret2
    exact ReadR.mk HE.out (OF.nil _ _ _) (Below.refl _ _)
  go_enter Try.func21, Try.ntmps21
  go_wp2
  go_loopw [4, 5] (fun out p wr => RRDrel l w out p wr) (fun _ p _ => l.length - (intOf p).toNat)
  case atStart => exact ⟨[], 0, rfl, RD.start l, OF.nil _ _ _, Below.refl _ _⟩
  case round =>
    obtain ⟨fs, p, rfl, hrd, hown, hbel⟩ := hrel
    have hp := hrd.1
    have hfs := hrd.2.1
    have hbr := hb.below hbel
    have hsz := hbel.size
    by_cases hlt : p < l.length
    · cases ht : rdF l p with
      | none =>
        have HR := Lib.hid ht
        have HL := Lib.hid (hrd.none_ hlt ht)
        clear ht hrd
        go_wp2_with (go_at_call 38; refine (one_no HR hp hcap hm' hbr hsz (by omega)).mono ?_; rintro e w1 ⟨n0, n1, n2, A1, n3, c1, nx, hb1, rfl⟩)
        go_ret2
        have HE : readE l = ([], 6) := by simp only [readE, if_neg hlim, HL.out]
        exact ReadR.mk HE (OF.nil _ _ _) ((hbel.trans (hb1.mono hsz)).alloc (by have := hb1.size; omega) _)
      | some r =>
        obtain ⟨f, q⟩ := r
        have HR := Lib.hid ht
        have HL := Lib.hid (hrd.more hlt ht)
        have hq := rdF_le hp ht
        clear ht hrd
        go_wp2_with (first
          | (go_at_call 38; refine (one_yes HR hp hcap hm' hbr hsz (by omega)).mono ?_; rintro e w1 ⟨A1, n3, c1, ho1, hb1, rfl⟩)
          | (at_builtin
             have hs1 := hb1.size
             have hbw := hb1.alloc hs1 (.cells #[.int .i64 f.num, .int .i64 f.wire, .int .u64 (f.x : Int), .slice A1 n3 c1] 55)
             go_must (refine append_field 35 55 (by kernel_rfl) info_rf (by decide) rfl _ _ rfl hown hbw rfl rfl (by simp) f rfl rfl rfl (ho1.alloc _) (by omega) hsz ?_; intro v' w' ho hg ha)))
        go_roundw
        case rel => exact ⟨_, _, rfl, HL.out, ho, grown_belowF (hown.below hbw (Nat.le_refl _)).ofd hg (by have := hbw.size; omega) (Nat.le_refl _) (hbel.trans (hbw.mono hsz))⟩
        case measure => simp [intOf]; omega
    · have HL := Lib.hid (hrd.last (by omega))
      clear hrd
      go_wp2
      go_ret2
      have HE : readE l = (fs, 0) := by simp only [readE, if_neg hlim, HL.out]
      exact ReadR.mk HE hown hbel
end Go.Proofs.Ythhanpfcnaokpaa
