/- Plain laws of layer 6: Read of Write, Write of Read. No program in sight. -/
import Derived.Test.YthhanpfcnaokpaaLaws
namespace Go.Proofs.Ythhanpfcnaokpaa

theorem lit8_fix (x n : Nat) : lit8 (fix8 x n) = x % 256 ^ n := by
  induction n with
  | zero => simp [fix8, lit8, Nat.mod_one]
  | succ n ih =>
    rw [fix8_succ, lit8_append, ih, fix8_len]
    have h1 : (UInt8.ofNat (x / 256 ^ n)).toNat = x / 256 ^ n % 256 := by simp
    simp only [lit8, h1, Nat.mul_zero, Nat.add_zero]
    rw [Nat.pow_succ, Nat.mod_mul]

/-- the field that stands at a place where its bytes stand -/
theorem rdF_wr {l post : List UInt8} {p : Nat} {f : Fld} (hd : l.drop p = wrF f ++ post) (hm : mayF f = true) (hx : f.x < 18446744073709551616) (hn : f.data.length < 18446744073709551616) :
    rdF l p = some (f, p + (wrF f).length) := by
  obtain ⟨m, hnum, hm1, hm2, hcase⟩ := mayF_cases hm
  obtain ⟨num, wire, x, data⟩ := f
  dsimp only at *
  subst hnum
  have hlen : l.length = p + ((wrF ⟨m, wire, x, data⟩).length + post.length) := by
    have h1 : (l.drop p).length = (wrF ⟨m, wire, x, data⟩ ++ post).length := by rw [hd]
    rw [List.length_drop, List.length_append] at h1
    have h2 : 1 ≤ (wrF ⟨m, wire, x, data⟩).length := by
      have := vi_len ((m : Int).toNat * 8 + wire.toNat)
      unfold wrF
      rw [List.length_append]; dsimp only; omega
    omega
  rcases hcase with ⟨rfl, rfl⟩ | ⟨rfl, rfl⟩ | ⟨rfl, rfl, hx32⟩ | ⟨rfl, rfl⟩
  · have hw : wrF ⟨m, 0, x, []⟩ = vi (m * 8 + 0) ++ vi x := by simp [wrF]
    rw [hw] at hd hlen ⊢
    rw [List.append_assoc] at hd
    have h1 : rdv 0 (l.drop p) = some (m * 8 + 0, (vi (m * 8 + 0)).length) := by rw [hd]; exact rdv_vi _ _ (by omega)
    have h2 : l.drop (p + (vi (m * 8 + 0)).length) = vi x ++ post := by rw [← List.drop_drop, hd, List.drop_left]
    have h3 : rdv 0 (l.drop (p + (vi (m * 8 + 0)).length)) = some (x, (vi x).length) := by rw [h2]; exact rdv_vi _ _ hx
    rw [rdF_part h1 (by omega)]
    have e1 : (m * 8 + 0) % 8 = 0 := by omega
    have e2 : (m * 8 + 0) / 8 = m := by omega
    rw [e1, e2]
    simp only [part, if_true, h3, Option.map_some, List.length_append]
    simp [Nat.add_assoc]
  · have hw : wrF ⟨m, 1, x, []⟩ = vi (m * 8 + 1) ++ fix8 x 8 := by simp [wrF]
    rw [hw] at hd hlen ⊢
    rw [List.append_assoc] at hd
    rw [List.length_append, fix8_len] at hlen
    have h1 : rdv 0 (l.drop p) = some (m * 8 + 1, (vi (m * 8 + 1)).length) := by rw [hd]; exact rdv_vi _ _ (by omega)
    have h2 : l.drop (p + (vi (m * 8 + 1)).length) = fix8 x 8 ++ post := by rw [← List.drop_drop, hd, List.drop_left]
    have h3 : lit8 ((l.drop (p + (vi (m * 8 + 1)).length)).take 8) = x := by
      rw [h2, List.take_left' (fix8_len x 8), lit8_fix]
      exact Nat.mod_eq_of_lt (by simpa using hx)
    rw [rdF_part h1 (by omega)]
    have e1 : (m * 8 + 1) % 8 = 1 := by omega
    have e2 : (m * 8 + 1) / 8 = m := by omega
    rw [e1, e2]
    have h4 : p + (vi (m * 8 + 1)).length + 8 ≤ l.length := by omega
    simp only [part, Nat.one_ne_zero, if_false, if_true, h4, h3, Option.map_some, List.length_append, fix8_len]
    simp [Nat.add_assoc]
  · have hw : wrF ⟨m, 5, x, []⟩ = vi (m * 8 + 5) ++ fix8 x 4 := by simp [wrF]
    rw [hw] at hd hlen ⊢
    rw [List.append_assoc] at hd
    rw [List.length_append, fix8_len] at hlen
    have h1 : rdv 0 (l.drop p) = some (m * 8 + 5, (vi (m * 8 + 5)).length) := by rw [hd]; exact rdv_vi _ _ (by omega)
    have h2 : l.drop (p + (vi (m * 8 + 5)).length) = fix8 x 4 ++ post := by rw [← List.drop_drop, hd, List.drop_left]
    have h3 : lit8 ((l.drop (p + (vi (m * 8 + 5)).length)).take 4) = x := by
      rw [h2, List.take_left' (fix8_len x 4), lit8_fix]
      exact Nat.mod_eq_of_lt (by simpa using hx32)
    rw [rdF_part h1 (by omega)]
    have e1 : (m * 8 + 5) % 8 = 5 := by omega
    have e2 : (m * 8 + 5) / 8 = m := by omega
    rw [e1, e2]
    have h4 : p + (vi (m * 8 + 5)).length + 4 ≤ l.length := by omega
    have e3 : ¬ (5 = 0) := by decide
    have e4 : ¬ (5 = 1) := by decide
    simp only [part, e3, e4, if_false, if_true, h4, h3, Option.map_some, List.length_append, fix8_len]
    simp [Nat.add_assoc]
  · have hw : wrF ⟨m, 2, 0, data⟩ = vi (m * 8 + 2) ++ (vi data.length ++ data) := by simp [wrF]
    rw [hw] at hd hlen ⊢
    rw [List.append_assoc, List.append_assoc] at hd
    rw [List.length_append, List.length_append] at hlen
    have h1 : rdv 0 (l.drop p) = some (m * 8 + 2, (vi (m * 8 + 2)).length) := by rw [hd]; exact rdv_vi _ _ (by omega)
    have h2 : l.drop (p + (vi (m * 8 + 2)).length) = vi data.length ++ (data ++ post) := by rw [← List.drop_drop, hd, List.drop_left]
    have h3 : rdv 0 (l.drop (p + (vi (m * 8 + 2)).length)) = some (data.length, (vi data.length).length) := by rw [h2]; exact rdv_vi _ _ hn
    have h4 : l.drop (p + (vi (m * 8 + 2)).length + (vi data.length).length) = data ++ post := by rw [← List.drop_drop, h2, List.drop_left]
    rw [rdF_part h1 (by omega)]
    have e1 : (m * 8 + 2) % 8 = 2 := by omega
    have e2 : (m * 8 + 2) / 8 = m := by omega
    rw [e1, e2]
    have h5 : p + (vi (m * 8 + 2)).length + (vi data.length).length + data.length ≤ l.length := by omega
    have e3 : ¬ (2 = 0) := by decide
    have e4 : ¬ (2 = 1) := by decide
    have e5 : ¬ (2 = 5) := by decide
    simp only [part, e3, e4, e5, if_false, if_true, h3, Option.bind_some, h5, h4, List.take_left, Option.map_some, List.length_append]
    simp [Nat.add_assoc]

def Ok64 (fs : List Fld) : Prop := ∀ f ∈ fs, mayF f = true ∧ f.x < 18446744073709551616 ∧ f.data.length < 18446744073709551616

theorem wrF_pos (f : Fld) : 1 ≤ (wrF f).length := by
  have := vi_len (f.num.toNat * 8 + f.wire.toNat)
  unfold wrF; rw [List.length_append]; omega

theorem rda_wr : ∀ (fs : List Fld) (f p : Nat) (l : List UInt8), Ok64 fs → l.drop p = wr fs → p ≤ l.length → l.length < p + f → rda f l p = some fs
  | _, 0, p, l, _, _, h1, h2 => by omega
  | [], f + 1, p, l, _, h, h1, _ => by
    have : p = l.length := by
      have h3 : (l.drop p).length = 0 := by rw [h]; rfl
      rw [List.length_drop] at h3; omega
    simp [rda, this]
  | a :: fs, f + 1, p, l, hok, h, h1, h2 => by
    have hc : wr (a :: fs) = wrF a ++ wr fs := by simp [wr]
    rw [hc] at h
    obtain ⟨m1, m2, m3⟩ := hok a (by simp)
    have hr := rdF_wr h m1 m2 m3
    have hp := wrF_pos a
    have hlen : l.length - p = (wrF a).length + (wr fs).length := by rw [← List.length_drop, h, List.length_append]
    have hne : ¬ p = l.length := by omega
    simp only [rda, hne, if_false, hr]
    rw [rda_wr fs f (p + (wrF a).length) l (fun f hf => hok f (by simp [hf])) (by rw [← List.drop_drop, h, List.drop_left]) (by omega) (by omega)]
    rfl

theorem rd_wr (fs : List Fld) (h : Ok64 fs) : rd (wr fs) = some fs := rda_wr fs _ 0 _ h (by simp) (Nat.zero_le _) (by omega)

/-- what is written is read -/
theorem read_write {fs : List Fld} (hok : ∀ f ∈ fs, f.x < 18446744073709551616 ∧ f.data.length < 18446744073709551616) {b : List UInt8} (h : writeE fs = (b, 0)) : readE b = (fs, 0) := by
  unfold writeE at h
  split at h
  · rename_i hall
    split at h
    · simp at h
    · rename_i hl
      simp only [Prod.mk.injEq, and_true] at h
      subst h
      rw [List.all_eq_true] at hall
      simp only [readE, if_neg hl, rd_wr fs (fun f hf => ⟨hall f hf, hok f hf⟩)]
  · simp at h

theorem write_err {fs : List Fld} {b : List UInt8} {er : Int} (h : writeE fs = (b, er)) (hne : er ≠ 0) : b = [] ∧ (er = 1 ∨ er = 8) := by
  unfold writeE at h
  split at h
  · split at h
    · simp only [Prod.mk.injEq] at h; exact ⟨h.1.symm, .inr h.2.symm⟩
    · simp only [Prod.mk.injEq] at h; exact absurd h.2.symm hne
  · simp only [Prod.mk.injEq] at h; exact ⟨h.1.symm, .inl h.2.symm⟩

/-! ### Write of Read -/
theorem vif_short : ∀ (l : List UInt8) (i x n : Nat), i ≤ 9 → rdv i l = some (x, n) → (vif (9 - i) x).length ≤ n := by
  intro l
  induction l with
  | nil => intro i x n _ h; simp [rdv] at h
  | cons c l ih =>
    intro i x n hi h
    unfold rdv at h
    split at h
    · cases h
    · rename_i h9
      split at h
      · rename_i hc
        simp only [Option.some.injEq, Prod.mk.injEq] at h
        obtain ⟨rfl, rfl⟩ := h
        cases 9 - i <;> simp [vif, hc]
      · rename_i hc
        simp only [Option.map_eq_some_iff, Prod.mk.injEq] at h
        obtain ⟨q, hq, h1, h2⟩ := h
        have hi9 : i < 9 := by
          have := c.toNat_lt
          omega
        have := ih (i + 1) q.1 q.2 (by omega) hq
        rw [show 9 - i = (9 - (i + 1)) + 1 by omega]
        unfold vif
        have hcl := c.toNat_lt
        split
        · simp; omega
        · rw [show x / 128 = q.1 by omega]
          simp only [List.length_cons]; omega
theorem vi_short {l : List UInt8} {x n : Nat} (h : rdv 0 l = some (x, n)) : (vi x).length ≤ n := vif_short l 0 x n (by omega) h

theorem rdF_ok {l : List UInt8} {p q : Nat} {f : Fld} (_hp : p ≤ l.length) (_hl : l.length ≤ 4194304) (h : rdF l p = some (f, q)) : mayF f = true ∧ f.x < 18446744073709551616 ∧ p + (wrF f).length ≤ q := by
  cases ht : rdv 0 (l.drop p) with
  | none => rw [rdF_none ht] at h; cases h
  | some r =>
    obtain ⟨tag, n⟩ := r
    by_cases hbad : tag / 8 < 1 ∨ 536870911 < tag / 8
    · rw [rdF_bad ht hbad] at h; cases h
    · rw [rdF_part ht hbad] at h
      have hs := vi_short ht
      have hn := rdv_len _ _ _ _ ht
      rw [List.length_drop] at hn
      have hdec : tag = tag / 8 * 8 + tag % 8 := by omega
      simp only [Option.map_eq_some_iff, Prod.mk.injEq] at h
      obtain ⟨⟨x, d, q'⟩, hr, hf, hq⟩ := h
      dsimp only at hf hq
      subst hq
      have hnum1 : decide ((1 : Int) ≤ ((tag / 8 : Nat) : Int)) = true := by simp; omega
      have hnum2 : decide (((tag / 8 : Nat) : Int) ≤ 536870911) = true := by simp; omega
      unfold part at hr
      split at hr
      · rename_i hw
        simp only [Option.map_eq_some_iff, Prod.mk.injEq] at hr
        obtain ⟨⟨y, k⟩, hv, rfl, rfl, rfl⟩ := hr
        subst hf
        have h64 := rdv_lt64 hv
        have hs2 := vi_short hv
        rw [hw]
        refine ⟨?_, h64, ?_⟩
        · simp only [mayF, mayN, hnum1, hnum2]; simp
        · have : wrF ⟨((tag / 8 : Nat) : Int), ((0 : Nat) : Int), y, []⟩ = vi tag ++ vi y := by
            simp only [wrF]; rw [show ((tag / 8 : Nat) : Int).toNat * 8 + ((0 : Nat) : Int).toNat = tag by omega]; simp
          rw [this, List.length_append]; dsimp only; omega
      · split at hr
        · rename_i hw
          split at hr
          · rename_i hle
            simp only [Option.some.injEq, Prod.mk.injEq] at hr
            obtain ⟨rfl, rfl, rfl⟩ := hr
            subst hf
            rw [hw]
            refine ⟨?_, lit8_lt64 _ (by simp; omega), ?_⟩
            · simp only [mayF, mayN, hnum1, hnum2]; simp
            · have : ∀ y, wrF ⟨((tag / 8 : Nat) : Int), ((1 : Nat) : Int), y, []⟩ = vi tag ++ fix8 y 8 := by
                intro y; simp only [wrF]; rw [show ((tag / 8 : Nat) : Int).toNat * 8 + ((1 : Nat) : Int).toNat = tag by omega]; simp
              rw [this, List.length_append, fix8_len]; omega
          · cases hr
        · split at hr
          · rename_i hw
            split at hr
            · rename_i hle
              simp only [Option.some.injEq, Prod.mk.injEq] at hr
              obtain ⟨rfl, rfl, rfl⟩ := hr
              subst hf
              rw [hw]
              have h32 : lit8 (List.take 4 (List.drop (p + n) l)) < 4294967296 := by
                have := lit8_lt (List.take 4 (List.drop (p + n) l))
                have h4 : (List.take 4 (List.drop (p + n) l)).length ≤ 4 := by simp; omega
                have h5 : 256 ^ (List.take 4 (List.drop (p + n) l)).length ≤ 256 ^ 4 := Nat.pow_le_pow_right (by decide) h4
                have h6 : 256 ^ 4 = 4294967296 := by decide
                omega
              refine ⟨?_, by dsimp only; omega, ?_⟩
              · simp only [mayF, mayN, hnum1, hnum2]; simp [h32]
              · have : ∀ y, wrF ⟨((tag / 8 : Nat) : Int), ((5 : Nat) : Int), y, []⟩ = vi tag ++ fix8 y 4 := by
                  intro y; simp only [wrF]; rw [show ((tag / 8 : Nat) : Int).toNat * 8 + ((5 : Nat) : Int).toNat = tag by omega]; simp
                rw [this, List.length_append, fix8_len]; omega
            · cases hr
          · split at hr
            · rename_i hw
              simp only [Option.bind_eq_some_iff] at hr
              obtain ⟨⟨y, k⟩, hv, hr⟩ := hr
              dsimp only at hr
              split at hr
              · rename_i hle
                simp only [Option.some.injEq, Prod.mk.injEq] at hr
                obtain ⟨rfl, rfl, rfl⟩ := hr
                subst hf
                rw [hw]
                have hs2 := vi_short hv
                have hdl : (List.take y (List.drop (p + n + k) l)).length = y := by simp; omega
                refine ⟨?_, by dsimp only; omega, ?_⟩
                · simp only [mayF, mayN, hnum1, hnum2]; simp
                · have : wrF ⟨((tag / 8 : Nat) : Int), ((2 : Nat) : Int), 0, List.take y (List.drop (p + n + k) l)⟩ = vi tag ++ (vi y ++ List.take y (List.drop (p + n + k) l)) := by
                    simp only [wrF]; rw [show ((tag / 8 : Nat) : Int).toNat * 8 + ((2 : Nat) : Int).toNat = tag by omega, hdl]; simp
                  rw [this, List.length_append, List.length_append, hdl]; omega
              · cases hr
            · cases hr

theorem rda_ok (l : List UInt8) (hl : l.length ≤ 4194304) : ∀ f p fs, p ≤ l.length → rda f l p = some fs → (∀ a ∈ fs, mayF a = true ∧ a.x < 18446744073709551616) ∧ p + (wr fs).length ≤ l.length := by
  intro f
  induction f with
  | zero => intro p fs _ h; simp [rda] at h
  | succ f ih =>
    intro p fs hp h
    unfold rda at h
    split at h
    · simp only [Option.some.injEq] at h; subst h; exact ⟨fun a ha => by simp at ha, by simpa [wr] using hp⟩
    · split at h
      · cases h
      · rename_i a q hq
        simp only [Option.map_eq_some_iff] at h
        obtain ⟨r, hr, rfl⟩ := h
        have h1 := rdF_le hp hq
        obtain ⟨g1, g2, g3⟩ := rdF_ok hp hl hq
        obtain ⟨k1, k2⟩ := ih q r h1.2 hr
        refine ⟨fun b hb => ?_, ?_⟩
        · rcases List.mem_cons.1 hb with rfl | hb
          · exact ⟨g1, g2⟩
          · exact k1 b hb
        · have : wr (a :: r) = wrF a ++ wr r := by simp [wr]
          rw [this, List.length_append]; omega

/-- what is read may be written, in no more bytes -/
theorem write_read {l : List UInt8} {fs : List Fld} (h : readE l = (fs, 0)) : writeE fs = (wr fs, 0) ∧ (wr fs).length ≤ l.length ∧ (∀ f ∈ fs, f.x < 18446744073709551616 ∧ f.data.length ≤ 4194304) := by
  have hdat := readE_data l
  rw [h] at hdat
  unfold readE at h
  split at h
  · simp at h
  · rename_i hl
    split at h
    · simp at h
    · rename_i fs' hfs
      simp only [Prod.mk.injEq, and_true] at h
      subst h
      obtain ⟨h1, h2⟩ := rda_ok l (by omega) _ 0 fs' (Nat.zero_le _) hfs
      refine ⟨?_, by omega, fun f hf => ⟨(h1 f hf).2, hdat f hf⟩⟩
      unfold writeE
      rw [if_pos (List.all_eq_true.2 fun f hf => (h1 f hf).1), if_neg (by omega)]
end Go.Proofs.Ythhanpfcnaokpaa
