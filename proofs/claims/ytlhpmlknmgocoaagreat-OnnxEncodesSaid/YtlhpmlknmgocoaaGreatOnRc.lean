/- The document's Count. -/
import Derived.Test.YtlhpmlknmgocoaaGreatOnF
namespace Go.Proofs.YtlhpmlknmgocoaaGreat
set_option linter.unusedSimpArgs false
set_option linter.unusedVariables false
open Go.RowKit
def RC1rel (l : List Int64) (z i : Value) : Prop := ∃ (k : Nat) (b : Bool), k ≤ l.length ∧ i = .int .i64 (k : Int) ∧ z = .bool b ∧ (l.take k).any (fun d => decide (d.toInt = 0)) = b ∧ Nn (l.take k)
set_option maxRecDepth 100000 in
set_option maxHeartbeats 1600000 in
theorem orcount_any {S : Nat → Prop} {v : Value} {w : World} {l : List Int64} (hv : Held w S (datI l) v) :
    Calls Tryz.prog 83 #[v] w fun e w' => e = .returned (.tuple #[.int .i64 (cnt l).1, .int .i64 (cnt l).2]) ∧ w' = w := by
  obtain ⟨A, c, rfl, h2, h3, h4, -⟩ := Held.leaves hv
  go_enter Tryz.func83, Tryz.ntmps83
  go_wp2
  go_loop [4, 5] (fun z i => RC1rel l z i) (fun _ i => l.length - (intOf i).toNat)
  case atStart => exact ⟨0, false, Nat.zero_le _, rfl, rfl, by simp, by intro d hd; simp at hd⟩
  case round =>
    obtain ⟨k, z, hk, rfl, rfl, hz, hn⟩ := hrel
    by_cases hlt : k < l.length
    · obtain ⟨b, off, rfl, -, hc⟩ := hv.int_at hlt
      have HN1 := Lib.hid (cnt_neg hlt)
      have HN2 := Lib.hid (nn_take hlt hn)
      have HA := Lib.hid (any_take hlt)
      have HZ := Lib.hid hz
      have hlo := i64_lo l[k]
      have hhi := i64_hi l[k]
      clear hz hn
      generalize l[k].toInt = d at *
      by_cases hneg : d < 0
      · cases z
        all_goals
          go_wp2
          go_ret2
          exact ⟨ret_ii (HN1.out hneg).symm, rfl⟩
      · cases z
        all_goals
          go_wp2
          go_round
          case rel => exact ⟨k + 1, _, by omega, by go_num, rfl, by rw [HA.out, HZ.out]; first | rfl | (simp; done) | (simp; rfl), HN2.out (by omega)⟩
          case measure => simp [intOf]; omega
    · have hke : k = l.length := by omega
      subst hke
      rw [List.take_length] at hz hn
      have HN := Lib.hid hn
      have HZ := Lib.hid hz
      clear hz hn
      by_cases h8 : 8 < l.length
      · cases z
        all_goals
          go_wp2
          go_ret2
          exact ⟨ret_ii (cnt_long HN.out h8).symm, rfl⟩
      · cases z
        case true =>
          go_wp2
          go_ret2
          exact ⟨ret_ii (cnt_zero HN.out h8 HZ.out).symm, rfl⟩
        case false =>
          have HP := Lib.hid (pos_of HN.out HZ.out)
          have HCN := Lib.hid (cnt_pos HN.out h8 HZ.out)
          go_wp2
          go_loop [6, 7] (fun n i => C2rel l n i) (fun _ i => l.length - (intOf i).toNat)
          case atStart => exact ⟨0, 1, Nat.zero_le _, rfl, rfl, by simp [prod], by decide, by decide⟩
          case round =>
            obtain ⟨k, p, hk, rfl, rfl, hp, hp1, hp2⟩ := hrel
            by_cases hlt : k < l.length
            · obtain ⟨b, off, rfl, -, hc⟩ := hv.int_at hlt
              have HT := Lib.hid (prod_take hlt)
              have HLE := Lib.hid (prod_le HP.out (k + 1))
              have hd1 := HP.out l[k] (List.getElem_mem _)
              have hhi := i64_hi l[k]
              have HPP := Lib.hid hp
              clear hp
              generalize l[k].toInt = d at *
              have hge : d ≤ p * d := by
                have := Int.mul_le_mul_of_nonneg_right hp1 (show 0 ≤ d by omega)
                omega
              have HGE := Lib.hid hge
              clear hge
              by_cases hbig : 4096 < d
              · go_wp2
                go_ret2
                have h9 := HLE.out
                rw [HT.out, HPP.out] at h9
                exact ⟨ret_ii (by rw [HCN.out, if_pos (by have := HGE.out; omega)]), rfl⟩
              · have hm1 : 1 ≤ p * d := by have := HGE.out; omega
                have hm2 : p * d ≤ 16777216 := by
                  have h5 : p * d ≤ 4096 * d := Int.mul_le_mul_of_nonneg_right hp2 (by omega)
                  omega
                by_cases hpb : 4096 < p * d
                · go_wp2
                  go_ret2
                  have h9 := HLE.out
                  rw [HT.out, HPP.out] at h9
                  exact ⟨ret_ii (by rw [HCN.out, if_pos (by omega)]), rfl⟩
                · go_wp2
                  go_round
                  case rel => exact ⟨k + 1, _, by omega, by go_num, rfl, by rw [HT.out, HPP.out], hm1, by omega⟩
                  case measure => simp [intOf]; omega
            · have hke : k = l.length := by omega
              go_wp2
              go_ret2
              subst hke
              rw [List.take_length] at hp
              exact ⟨ret_ii (by rw [HCN.out, hp, if_neg (by omega)]), rfl⟩
end Go.Proofs.YtlhpmlknmgocoaaGreat
