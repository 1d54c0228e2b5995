/- Plain: the law that SoftKeeps states, of AddBy's answers. -/
import Derived.Test.YtkdlkjoeoahfpaaKeepP
namespace Go.Proofs.Ytkdlkjoeoahfpaa

theorem nan_const : nanP 2143289344 = true := rfl
theorem less_nan_l {r s : Nat} (h : nanP r = true) : lessP r s = false := by unfold lessP; rw [h]; rfl
theorem less_nan_r {r s : Nat} (h : nanP s = true) : lessP r s = false := by unfold lessP; rw [h]; simp
theorem less_not {r s : Nat} (h : placeP s ≤ placeP r) : lessP r s = false := by
  unfold lessP
  rw [decide_eq_false (by omega)]
  simp
theorem place_le {r : Nat} (h : nanP r = false) : -2139095040 ≤ placeP r ∧ placeP r ≤ 2139095040 := by
  unfold nanP at h
  have := of_decide_eq_false h
  unfold placeP
  split <;> omega
theorem add_nan_r (way : Int) {x c : Nat} (h : nanP c = true) : addP way x c = 2143289344 := by
  have := (open_nan c).1
  rw [h] at this
  unfold addP addN
  rw [if_pos (by rw [this]; simp)]
theorem add_inf_r (way : Int) {x c : Nat} (hx : x < 4294967296) (hc : c < 4294967296) (h : infP c = true) : addP way x c = 2143289344 ∨ addP way x c = c := by
  obtain ⟨-, p2⟩ := open_nan c
  rw [h] at p2
  have ic := open_inf hc rfl p2
  have ix := open_inf hx (x := openN x) rfl
  unfold addP addN
  split
  · exact .inl rfl
  · rename_i hn
    split
    · rename_i h1
      right
      have hs : (openN x).neg = (openN c).neg := by
        cases hxn : (openN x).neg <;> cases hyn : (openN c).neg <;> first | rfl | (exfalso; apply hn; simp [h1, p2, hxn, hyn])
      have e := ix h1
      rw [hs, ← ic] at e
      exact e
    · exact .inr rfl
theorem add_inf_l (way : Int) {x c : Nat} (hnx : nanP x = false) (hnc : nanP c = false) (h : infP x = true) (hic : infP c = false) : addP way x c = x := by
  obtain ⟨o1, o2⟩ := open_nan x
  obtain ⟨p1, p2⟩ := open_nan c
  rw [hnx] at o1
  rw [h] at o2
  rw [hnc] at p1
  rw [hic] at p2
  unfold addP addN
  rw [if_neg (by rw [o1, p1, p2]; simp), if_pos o2]
theorem keeps (way : Int) {a b c : Nat} (ha : a < 4294967296) (hb : b < 4294967296) (hc : c < 4294967296) (hl : lessP a b = true) : lessP (addP way b c) (addP way a c) = false := by
  unfold lessP at hl
  simp only [Bool.and_eq_true, Bool.not_eq_true', decide_eq_true_eq] at hl
  obtain ⟨⟨hna, hnb⟩, hlt⟩ := hl
  cases hnc : nanP c
  · cases hic : infP c
    · cases hia : infP a
      · cases hib : infP b
        · exact less_not (by rw [place_add way hna hia hnc hic, place_add way hnb hib hnc hic]; exact rsum_mono (by have := val_mono (Int.le_of_lt hlt); omega))
        · rw [add_inf_l way hnb hnc hib hic]
          cases hr : nanP (addP way a c)
          · have h1 := place_le hr
            have h2 : placeP b = 2139095040 ∨ placeP b = -2139095040 := by
              unfold infP at hib
              have := of_decide_eq_true hib
              unfold placeP
              split <;> omega
            have h3 := place_le hna
            exact less_not (by omega)
          · exact less_nan_r hr
      · rw [add_inf_l way hna hnc hia hic]
        cases hr : nanP (addP way b c)
        · have h1 := place_le hr
          have h2 : placeP a = 2139095040 ∨ placeP a = -2139095040 := by
            unfold infP at hia
            have := of_decide_eq_true hia
            unfold placeP
            split <;> omega
          have h3 := place_le hnb
          exact less_not (by omega)
        · exact less_nan_l hr
    · rcases add_inf_r way hb hc hic with e | e
      · rw [e]; exact less_nan_l nan_const
      · rcases add_inf_r way ha hc hic with f | f
        · rw [f]; exact less_nan_r nan_const
        · rw [e, f]; exact less_not (Int.le_refl _)
  · rw [add_nan_r way hnc]; exact less_nan_l nan_const
end Go.Proofs.Ytkdlkjoeoahfpaa
