/- The contract of the document's Compare. -/
import Derived.Test.YtanccobllehnaaaNatO
namespace Go.Proofs.Ytanccobllehnaaa
open Go.RowKit

def cmpV (x y : Nat) : Int := if x < y then -1 else if y < x then 1 else 0
theorem cmpV_lt {x y : Nat} (h : x < y) : cmpV x y = -1 := by unfold cmpV; rw [if_pos h]
theorem cmpV_gt {x y : Nat} (h : y < x) : cmpV x y = 1 := by unfold cmpV; rw [if_neg (by omega), if_pos h]
theorem cmpV_eq (x : Nat) : cmpV x x = 0 := by unfold cmpV; rw [if_neg (Nat.lt_irrefl _), if_neg (Nat.lt_irrefl _)]
def CMrel (a b : List Nat) (w : World) (i : Value) (wr : World) : Prop := ∃ k m : Nat, i = .int .i64 ((k : Int) - 1) ∧ k ≤ a.length ∧ a.drop k = b.drop k ∧ wr = w.drewN m

set_option maxRecDepth 100000 in
set_option maxHeartbeats 1600000 in
theorem compare_any {A A' : Option Addr} {n n' cap cap' B B' : Nat} {a b : List Nat} {w : World} (hn : Hid (n = a.length)) (hn' : Hid (n' = b.length)) (hm : n ≤ 9223372036854775807) (hm' : n' ≤ 9223372036854775807) (ha : WR w B A a) (hb : WR w B' A' b) (wa : Wd a) (wb : Wd b) (ta : Trim a) (tb : Trim b) :
    Calls Try.prog 55 #[.slice A n cap, .slice A' n' cap'] w fun e w' => e = .returned (.int .i64 (cmpV (wv a) (wv b))) ∧ ∃ m, w' = w.drewN m := by
  by_cases hlt : n < n'
  · have HR := Lib.hid (cmpV_lt (trim_len wa tb (by rw [← hn.out, ← hn'.out]; exact hlt)))
    have h1 : ((n : Int) != (n' : Int)) = true := by rw [bne_iff_ne]; omega
    have h2 : (n : Int) < (n' : Int) := by omega
    go_enter Try.func55, Try.ntmps55
    go_wp2
    go_ret
    exact ⟨by rw [HR.out]; rfl, 0, rfl⟩
  by_cases hgt : n' < n
  · have HR := Lib.hid (cmpV_gt (trim_len wb ta (by rw [← hn.out, ← hn'.out]; exact hgt)))
    have h1 : ((n : Int) != (n' : Int)) = true := by rw [bne_iff_ne]; omega
    have h2 : ¬ (n : Int) < (n' : Int) := by omega
    go_enter Try.func55, Try.ntmps55
    go_wp2
    go_ret
    exact ⟨by rw [HR.out]; rfl, 0, rfl⟩
  obtain rfl : n = n' := by omega
  have hlen : a.length = b.length := by rw [← hn.out, ← hn'.out]
  have h1 : ((n : Int) != (n : Int)) = false := by simp
  clear hlt hgt hm'
  have HLEN := Lib.hid hlen
  clear hlen
  go_enter Try.func55, Try.ntmps55
  go_wp2
  go_loopw [5] (fun i wr => CMrel a b w i wr) (fun i _ => (intOf i + 1).toNat)
  case atStart => exact ⟨n, 0, by go_num, by rw [hn.out]; exact Nat.le_refl _, by rw [hn.out, List.drop_length, HLEN.out, List.drop_length], rfl⟩
  case round =>
    obtain ⟨k, m, rfl, hk, he, rfl⟩ := hrel
    have HE := Lib.hid he
    clear he
    have hkn : k ≤ n := by rw [hn.out]; exact hk
    by_cases h0 : k = 0
    · subst h0
      have HR : Hid (cmpV (wv a) (wv b) = 0) := Lib.hid (by
        have : a = b := by simpa using HE.out
        rw [this]; exact cmpV_eq _)
      go_wp2
      go_ret
      exact ⟨by rw [HR.out]; rfl, m, rfl⟩
    · have hka : k - 1 < a.length := by omega
      have hkb : k - 1 < b.length := by rw [← HLEN.out]; exact hka
      obtain ⟨ba, oa, rfl, -, a0⟩ := ha.at_ hka
      obtain ⟨bb, ob, rfl, -, b0⟩ := hb.at_ hkb
      have hk2 : (k : Int) - 1 = ((k - 1 : Nat) : Int) := by omega
      have hk3 : ((k - 1 : Nat) : Int) < (n : Int) := by omega
      rw [hk2]
      have hsub : IntKind.i64.wrap (((k - 1 : Nat) : Int) - 1) = ((k - 1 : Nat) : Int) - 1 := IntWalk.i64_in _ (by omega)
      have HL : Hid (a[k - 1] < b[k - 1] → cmpV (wv a) (wv b) = -1) := Lib.hid fun h => cmpV_lt (wv_less wa hka hkb (by rw [show k - 1 + 1 = k from by omega]; exact HE.out) h)
      have HG : Hid (b[k - 1] < a[k - 1] → cmpV (wv a) (wv b) = 1) := Lib.hid fun h => cmpV_gt (wv_less wb hkb hka (by rw [show k - 1 + 1 = k from by omega]; exact HE.out.symm) h)
      have HQ : Hid (a[k - 1] = b[k - 1] → a.drop (k - 1) = b.drop (k - 1)) := Lib.hid fun h => by
        rw [List.drop_eq_getElem_cons hka, List.drop_eq_getElem_cons hkb, h, show k - 1 + 1 = k from by omega, HE.out]
      have hka' : k - 1 ≤ a.length := by omega
      generalize a[k - 1] = x at *
      generalize b[k - 1] = y at *
      clear hka hkb
      by_cases hxy : x < y
      · have c1 : (x : Int) < (y : Int) := by omega
        go_wp2
        go_quiet (fail)
        go_wp2
        go_ret
        exact ⟨by rw [HL.out hxy]; rfl, _, World.drewN_drewN _ _ _⟩
      · by_cases hyx : y < x
        · have c1 : ¬ (x : Int) < (y : Int) := by omega
          have c2 : (y : Int) < (x : Int) := by omega
          go_wp2
          go_quiet (fail)
          go_wp2
          go_quiet (fail)
          go_wp2
          go_ret
          exact ⟨by rw [HG.out hyx]; rfl, _, (World.drewN_drewN _ _ _).trans (World.drewN_drewN _ _ _)⟩
        · have c1 : ¬ (x : Int) < (y : Int) := by omega
          have c2 : ¬ (y : Int) < (x : Int) := by omega
          have hxe : x = y := by omega
          go_wp2
          go_quiet (fail)
          go_wp2
          go_quiet (fail)
          go_wp2
          go_roundw
          case rel => exact ⟨k - 1, _, by go_num, hka', HQ.out hxe, rfl⟩
          case measure => simp [intOf] <;> omega
end Go.Proofs.Ytanccobllehnaaa
