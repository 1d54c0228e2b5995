/- The reader's names, dims; a number's bytes. -/
import Derived.Test.YtlhpmlknmgocoaaGreatOnD
namespace Go.Proofs.YtlhpmlknmgocoaaGreat
set_option linter.unusedSimpArgs false
set_option linter.unusedVariables false
open Go.RowKit

theorem width_any (k : Int) (w : World) : Calls Tryz.prog 107 #[.int .i64 k] w fun e w' => e = .returned (.int .i64 (if k = 1 then 4 else if k = 7 then 8 else 1)) ∧ w' = w := by
  by_cases h1 : k = 1
  · subst h1
    go_enter Tryz.func107, Tryz.ntmps107
    go_wp2
    go_ret
    exact ⟨rfl, rfl⟩
  · have e1 : (k == 1) = false := by simpa using h1
    by_cases h7 : k = 7
    · subst h7
      go_enter Tryz.func107, Tryz.ntmps107
      go_wp2
      go_ret
      exact ⟨rfl, rfl⟩
    · have e7 : (k == 7) = false := by simpa using h7
      rw [if_neg h1, if_neg h7]
      go_enter Tryz.func107, Tryz.ntmps107
      go_wp2
      go_ret
      exact ⟨rfl, rfl⟩
def knownI (k : Int) : Bool := decide (k = 1) || decide (k = 7) || decide (k = 9)
theorem known_any (k : Int) (w : World) : Calls Tryz.prog 50 #[.int .i64 k] w fun e w' => e = .returned (.bool (knownI k)) ∧ w' = w := by
  by_cases h1 : k = 1
  · subst h1
    go_enter Tryz.func50, Tryz.ntmps50
    go_wp2
    go_ret
    exact ⟨rfl, rfl⟩
  · have e1 : (k == 1) = false := by simpa using h1
    by_cases h7 : k = 7
    · subst h7
      go_enter Tryz.func50, Tryz.ntmps50
      go_wp2
      go_ret
      exact ⟨rfl, rfl⟩
    · have e7 : (k == 7) = false := by simpa using h7
      have e : knownI k = (k == 9) := by simp only [knownI, h1, h7, decide_false, Bool.false_or]; rfl
      rw [e]
      clear e
      go_enter Tryz.func50, Tryz.ntmps50
      go_wp2
      go_ret
      exact ⟨rfl, rfl⟩
set_option maxHeartbeats 400000 in
theorem olittle_any (B : Nat) (A : Option Addr) (cap : Nat) (l : List UInt8) (w : World) (hl : l.length ≤ 8) (hb : RB w B A l) :
    Calls Tryz.prog 108 #[.slice A l.length cap] w fun e w' => e = .returned (.int .u64 (lit8 l : Int)) ∧ w' = w := by
  go_enter Tryz.func108, Tryz.ntmps108
  go_wp2
  go_loop [3, 8] (fun x i => ∃ k : Nat, k ≤ l.length ∧ i = .int .i64 (k : Int) ∧ x = .int .u64 (lit8 (l.take k) : Int)) (fun _ i => l.length - (intOf i).toNat)
  case atStart => exact ⟨0, Nat.zero_le _, rfl, by simp [lit8]⟩
  case round =>
    obtain ⟨k, hk, rfl, rfl⟩ := hrel
    by_cases hlt : k < l.length
    · obtain ⟨b, off, rfl, -, hc⟩ := hb.at_ hlt
      have hd := lit8_take l k hlt
      have hj := lit8_join l k hlt hl
      have HD := Lib.hid hd
      have HJ := Lib.hid hj
      have hb := (l[k]).toNat_lt
      clear hd hj
      go_wp2
      go_round
      case rel => exact ⟨k + 1, by omega, by go_num, by rw [HD.out, ← HJ.out]⟩
      case measure => simp [intOf]; omega
    · go_wp2
      go_ret
      exact ⟨ret_int (by rw [List.take_of_length_le (by omega)]), rfl⟩


section
variable {g : Nat} {f : Fl} {S : Nat → Prop} {v : Value} {w : World}
theorem datS_row (l : List (List UInt8)) : datS l = .row 1 (l.flatMap fun x => [lfS x]) := by
  unfold datS
  congr 1
  induction l with
  | nil => rfl
  | cons x l ih => simp [lfS, ih]
set_option maxRecDepth 100000 in
theorem names_any {fs : List Fld} (num : Int) (hk : RdB w g f) (hv : Held w S (datFs fs) v) (hm : Sm fs) :
    Calls Tryz.prog 88 #[.pointer (some ⟨g, 0, none⟩), v, .int .i64 num] w (Rd w g f (datS (dNames fs num).1) (dNames fs num).2) := by
  have hlt := hk.lt
  have hB := Blk.new w 81 #[.pointer (some ⟨g, 0, none⟩)]
  have HC := Lib.hid (list_Str (p := w.heap.size) num 64 (hk.alloc (.cells #[.pointer (some ⟨g, 0, none⟩)] 81)) (hv.alloc _) hm (by omega) (hB.cell 0))
  obtain ⟨A, c, rfl, -⟩ := hv.rf
  clear hk hv hm
  go_enter Tryz.func88, Tryz.ntmps88
  go_wp2_with fail
  refine HC.out.mono ?_
  rintro e w1 ⟨u, rfl, h1, h2, h3⟩
  have H1 := Lib.hid h1
  have H2 := Lib.hid h2
  clear h1 h2
  go_wp2
  go_ret
  unfold Rd
  rw [datS_row]
  exact ⟨_, rfl, H1.out.mono fun b hb => ⟨by have := hb.1; simp at this; omega, hb.2⟩, H2.out, grown_trans (grown_alloc _ _) h3⟩
end

/-! ### Count -/
theorem prod_take {l : List Int64} {k : Nat} (h : k < l.length) : prod (l.take (k + 1)) = prod (l.take k) * l[k].toInt := by
  have : ∀ (a : List Int64) (x : Int64), prod (a ++ [x]) = prod a * x.toInt := by
    intro a x
    induction a with
    | nil => simp [prod]
    | cons y a ih => simp only [List.cons_append, prod, ih, Int.mul_assoc]
  rw [List.take_succ_eq_append_getElem h, this]
theorem prod_pos : ∀ (l : List Int64), (∀ d ∈ l, 1 ≤ d.toInt) → 1 ≤ prod l
  | [], _ => by simp [prod]
  | d :: l, h => by
    have h1 := prod_pos l fun x hx => h x (by simp [hx])
    have h2 := h d (by simp)
    simp only [prod]
    have := Int.mul_le_mul h2 h1 (by omega) (by omega)
    omega
theorem prod_app (a b : List Int64) : prod (a ++ b) = prod a * prod b := by
  induction a with
  | nil => simp [prod]
  | cons y a ih => simp only [List.cons_append, prod, ih, Int.mul_assoc]
theorem prod_le {l : List Int64} (h : ∀ d ∈ l, 1 ≤ d.toInt) (k : Nat) : prod (l.take k) ≤ prod l := by
  have h1 := prod_pos (l.drop k) fun d hd => h d (List.mem_of_mem_drop hd)
  have h2 := prod_pos (l.take k) fun d hd => h d (List.mem_of_mem_take hd)
  have h3 := prod_app (l.take k) (l.drop k)
  rw [List.take_append_drop] at h3
  rw [h3]
  have := Int.mul_le_mul_of_nonneg_left h1 (show 0 ≤ prod (l.take k) by omega)
  omega
theorem cnt_neg {l : List Int64} {k : Nat} (h : k < l.length) (hn : l[k].toInt < 0) : cnt l = (0, 1) := by
  unfold cnt
  rw [if_pos (List.any_eq_true.2 ⟨_, List.getElem_mem h, by simpa using hn⟩)]
/-- none is negative -/
def Nn (l : List Int64) : Prop := ∀ d ∈ l, 0 ≤ d.toInt
theorem Nn.any {l : List Int64} (h : Nn l) : l.any (fun d => decide (d.toInt < 0)) = false := by
  rw [List.any_eq_false]
  intro d hd
  have := h d hd
  simp; omega
theorem cnt_long {l : List Int64} (h : Nn l) (hl : 8 < l.length) : cnt l = (0, 8) := by
  unfold cnt
  rw [h.any, if_neg (by decide), if_pos hl]
theorem cnt_zero {l : List Int64} (h : Nn l) (hl : ¬ 8 < l.length) (hz : l.any (fun d => decide (d.toInt = 0)) = true) : cnt l = (0, 0) := by
  unfold cnt
  rw [h.any, if_neg (by decide), if_neg hl, if_pos hz]
theorem pos_of {l : List Int64} (h : Nn l) (hz : l.any (fun d => decide (d.toInt = 0)) = false) : ∀ d ∈ l, 1 ≤ d.toInt := by
  intro d hd
  have h1 := h d hd
  rw [List.any_eq_false] at hz
  have h2 := hz d hd
  simp at h2; omega
theorem cnt_pos {l : List Int64} (h : Nn l) (hl : ¬ 8 < l.length) (hz : l.any (fun d => decide (d.toInt = 0)) = false) : cnt l = if 4096 < prod l then (0, 8) else (prod l, 0) := by
  unfold cnt
  rw [h.any, if_neg (by decide), if_neg hl, hz, if_neg (by decide)]
/-- rounds of the first loop -/
theorem any_take {l : List Int64} {k : Nat} (h : k < l.length) : (l.take (k + 1)).any (fun d => decide (d.toInt = 0)) = ((l.take k).any (fun d => decide (d.toInt = 0)) || decide (l[k].toInt = 0)) := by
  rw [List.take_succ_eq_append_getElem h, List.any_append]; simp
theorem nn_take {l : List Int64} {k : Nat} (h : k < l.length) (hn : Nn (l.take k)) (hp : 0 ≤ l[k].toInt) : Nn (l.take (k + 1)) := by
  intro d hd
  rw [List.take_succ_eq_append_getElem h] at hd
  rcases List.mem_append.1 hd with hd | hd
  · exact hn d hd
  · simp at hd; subst hd; exact hp
theorem Held.int_at {w : World} {S : Nat → Prop} {A : Option Addr} {n c : Nat} {l : List Int64} (h : Held w S (datI l) (.slice A n c)) {k : Nat} (hk : k < l.length) : ∃ b off, A = some ⟨b, off, none⟩ ∧ S b ∧ w.cell? ⟨b, off + k, none⟩ = some (.int .i64 l[k].toInt) := by
  obtain ⟨A', c', e, -, -, -, h5⟩ := Held.leaves h
  injection e with e1 e2 e3
  subst e1
  exact h5 k hk
theorem i64_lo (x : Int64) : -9223372036854775808 ≤ x.toInt := Int64.le_toInt x
theorem i64_hi (x : Int64) : x.toInt < 9223372036854775808 := Int64.toInt_lt x
def C1rel (l : List Int64) (n i : Value) : Prop := ∃ (k : Nat) (z : Bool), k ≤ l.length ∧ i = .int .i64 (k : Int) ∧ n = .int .i64 (if z = true then 0 else 1) ∧ (l.take k).any (fun d => decide (d.toInt = 0)) = z ∧ Nn (l.take k)
def C2rel (l : List Int64) (n i : Value) : Prop := ∃ (k : Nat) (p : Int), k ≤ l.length ∧ i = .int .i64 (k : Int) ∧ n = .int .i64 p ∧ prod (l.take k) = p ∧ 1 ≤ p ∧ p ≤ 4096
theorem ret_ii {x y x' y' : Int} (h : (x, y) = (x', y')) : Ending.returned (.tuple #[.int .i64 x, .int .i64 y]) = .returned (.tuple #[.int .i64 x', .int .i64 y']) := by injection h with h1 h2; rw [h1, h2]
set_option maxRecDepth 100000 in
set_option maxHeartbeats 1600000 in
theorem count_any {S : Nat → Prop} {v : Value} {w : World} {l : List Int64} (hv : Held w S (datI l) v) :
    Calls Tryz.prog 11 #[v] w fun e w' => e = .returned (.tuple #[.int .i64 (cnt l).1, .int .i64 (cnt l).2]) ∧ w' = w := by
  obtain ⟨A, c, rfl, h2, h3, h4, -⟩ := Held.leaves hv
  go_enter Tryz.func11, Tryz.ntmps11
  go_wp2
  go_loop [4, 11] (fun n i => C1rel l n i) (fun _ i => l.length - (intOf i).toNat)
  case atStart => exact ⟨0, false, Nat.zero_le _, rfl, rfl, by simp, by intro d hd; simp at hd⟩
  case round =>
    obtain ⟨k, z, hk, rfl, rfl, hz, hn⟩ := hrel
    by_cases hlt : k < l.length
    · obtain ⟨b, off, rfl, -, hc⟩ := hv.int_at hlt
      have HN1 := Lib.hid (cnt_neg hlt)
      have HN2 := Lib.hid (nn_take hlt hn)
      have HA := Lib.hid (any_take hlt)
      have HZ := Lib.hid hz
      have hlo := i64_lo l[k]
      have hhi := i64_hi l[k]
      clear hz hn
      generalize l[k].toInt = d at *
      by_cases hneg : d < 0
      · cases z
        all_goals
          go_wp2
          go_ret2
          exact ⟨ret_ii (HN1.out hneg).symm, rfl⟩
      · by_cases hd0 : d = 0
        · subst hd0
          cases z
          all_goals
            go_wp2
            go_round
            case rel => exact ⟨k + 1, true, by omega, by go_num, rfl, by rw [HA.out, HZ.out]; rfl, HN2.out (by omega)⟩
            case measure => simp [intOf]; omega
        · cases z
          all_goals
            go_wp2
            go_round
            case rel => exact ⟨k + 1, _, by omega, by go_num, rfl, by rw [HA.out, HZ.out, decide_eq_false hd0, Bool.or_false], HN2.out (by omega)⟩
            case measure => simp [intOf]; omega
    · have hke : k = l.length := by omega
      subst hke
      rw [List.take_length] at hz hn
      have HN := Lib.hid hn
      have HZ := Lib.hid hz
      clear hz hn
      by_cases h8 : 8 < l.length
      · cases z
        all_goals
          go_wp2
          go_ret2
          exact ⟨ret_ii (cnt_long HN.out h8).symm, rfl⟩
      · cases z
        case true =>
          go_wp2
          go_ret2
          exact ⟨ret_ii (cnt_zero HN.out h8 HZ.out).symm, rfl⟩
        case false =>
          have HP := Lib.hid (pos_of HN.out HZ.out)
          have HCN := Lib.hid (cnt_pos HN.out h8 HZ.out)
          go_wp2
          go_loop [4, 28] (fun n i => C2rel l n i) (fun _ i => l.length - (intOf i).toNat)
          case atStart => exact ⟨0, 1, Nat.zero_le _, rfl, rfl, by simp [prod], by decide, by decide⟩
          case round =>
            obtain ⟨k, p, hk, rfl, rfl, hp, hp1, hp2⟩ := hrel
            by_cases hlt : k < l.length
            · obtain ⟨b, off, rfl, -, hc⟩ := hv.int_at hlt
              have HT := Lib.hid (prod_take hlt)
              have HLE := Lib.hid (prod_le HP.out (k + 1))
              have hd1 := HP.out l[k] (List.getElem_mem _)
              have hhi := i64_hi l[k]
              have HPP := Lib.hid hp
              clear hp
              generalize l[k].toInt = d at *
              have hdiv : 4096 / p < d ↔ 4096 < p * d := by
                constructor
                · intro h
                  have h1 := Int.lt_mul_of_ediv_lt (by omega : 0 < p) h
                  rwa [Int.mul_comm] at h1
                · intro h
                  exact Int.ediv_lt_of_lt_mul (by omega) (by rwa [Int.mul_comm])
              have hq0 : 0 ≤ 4096 / p := Int.ediv_nonneg (by omega) (by omega)
              have hqt : Int.tdiv 4096 p = 4096 / p := Int.tdiv_eq_ediv_of_nonneg (by omega)
              have hq1 : 4096 / p ≤ 4096 := Int.ediv_le_self _ (by omega)
              by_cases hbig : 4096 < p * d
              · have hb2 := hdiv.2 hbig
                have HBIG := Lib.hid hbig
                clear hdiv hbig
                generalize hQ : (4096 : Int) / p = Q at *
                clear hQ
                go_wp2
                go_ret2
                have h9 := HLE.out
                rw [HT.out, HPP.out] at h9
                exact ⟨ret_ii (by rw [HCN.out, if_pos (by have := HBIG.out; omega)]), rfl⟩
              · have hb2 : ¬ 4096 / p < d := fun h => hbig (hdiv.1 h)
                have hm1 : 1 ≤ p * d := by
                  have := Int.mul_le_mul hp1 hd1 (by omega) (by omega)
                  omega
                have hm2 : p * d ≤ 4096 := by omega
                clear hdiv hbig
                generalize hQ : (4096 : Int) / p = Q at *
                clear hQ
                go_wp2
                go_round
                case rel => exact ⟨k + 1, _, by omega, by go_num, rfl, by rw [HT.out, HPP.out], hm1, hm2⟩
                case measure => simp [intOf]; omega
            · have hke : k = l.length := by omega
              go_wp2
              go_ret2
              subst hke
              rw [List.take_length] at hp
              exact ⟨ret_ii (by rw [HCN.out, hp, if_neg (by omega)]), rfl⟩
end Go.Proofs.YtlhpmlknmgocoaaGreat
