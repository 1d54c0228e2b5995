/- Is the last set of ONNX's own of the version that is known? -/
import Derived.Test.YtlhpmlknmgocoaaGreatOnK
namespace Go.Proofs.YtlhpmlknmgocoaaGreat
set_option linter.unusedSimpArgs false
set_option linter.unusedVariables false
open Go.RowKit

/-- a row of a struct: its address, without a spot -/
theorem Held.row_at {w : World} {S : Nat → Prop} {α : Type} {D : α → List Dat} {n : Nat} (hf : ∀ x, (D x).length = n) (hn : 0 < n) {xs : List α} {A : Option Addr} {m c : Nat} (h : Held w S (.row n (xs.flatMap D)) (.slice A m c)) {k : Nat} (hk : k < xs.length) :
    ∃ (b off : Nat) (us : List Value), A = some ⟨b, off, none⟩ ∧ S b ∧ us.length = n ∧ (∀ j u, us[j]? = some u → w.cell? ⟨b, off + k * n + j, none⟩ = some u) ∧ ∀ j (h : j < (D xs[k]).length) (h' : j < us.length), Held w S (D xs[k])[j] us[j] := by
  obtain ⟨A', c', e, h2, h3, h4, h5⟩ := Held.rows (f := D) (n := n) hf hn h
  injection e with e1 e2 e3
  subst e1
  obtain ⟨ad, us, hA, hs, hl, hc, hh⟩ := h5 k hk
  obtain ⟨ad0, us0, hA0, -, hl0, hc0, -⟩ := h5 0 (by omega)
  rw [hA] at hA0
  obtain rfl := Option.some.inj hA0
  obtain ⟨b, off, spot⟩ := ad
  have hs0 : spot = none := by
    have h6 := hc0 0 _ (List.getElem?_eq_getElem (show 0 < us0.length by omega))
    simpa [Addr.add] using World.cell?_spot h6
  subst hs0
  refine ⟨b, off, us, hA, hs, hl, fun j u hj => ?_, hh⟩
  have h6 := hc j u hj
  rw [Addr.add_lit] at h6
  rw [Nat.add_assoc]
  exact h6
theorem lastOwn_take {l : List (Bool × Int64)} {k : Nat} (h : k < l.length) : lastOwn (l.take (k + 1)) = if l[k].1 then l[k].2 else lastOwn (l.take k) := by
  unfold lastOwn
  rw [List.take_succ_eq_append_getElem h, List.foldl_append]
  rfl
def FTrel' (xs : List (Bool × Int64)) (W1 : World) (last i : Value) (wr : World) : Prop :=
  ∃ k : Nat, k ≤ xs.length ∧ i = .int .i64 (k : Int) ∧ last = .int .i64 (lastOwn (xs.take k)).toInt ∧ Below W1.heap.size W1 wr
section
variable {g : Nat} {f : Fl} {S : Nat → Prop} {v : Value} {w : World}
set_option maxRecDepth 100000 in
set_option maxHeartbeats 1600000 in
theorem fits_any {fs : List Fld} (hk : RdB w g f) (hv : Held w S (datFs fs) v) (hm : Sm fs) :
    Calls Tryz.prog 39 #[.pointer (some ⟨g, 0, none⟩), v] w fun e w' => e = .returned (.bool (dFits fs).1) ∧ RdB w' g (f.or (dFits fs).2) ∧ w.grownBy w' (some g) := by
  obtain ⟨A, c, rfl, -⟩ := hv.rf
  have hxl : (dList dOwn fs 8 fs.length).1.length ≤ 4194304 := dList_len hm
  obtain ⟨⟨xs, fl8⟩, hxs⟩ : ∃ r, dList dOwn fs 8 fs.length = r := ⟨_, rfl⟩
  have HE : Hid (dFits fs = (decide (lastOwn xs = 17), fl8)) := Lib.hid (by unfold dFits; rw [hxs])
  go_enter Tryz.func39, Tryz.ntmps39
  go_wp2_with fail
  refine Calls.mono (list_Ver 8 fs.length hk hv hm) ?_
  rintro e W1 ⟨u1, rfl, h1, k1, g1⟩
  rw [hxs] at h1 k1 hxl
  dsimp only at h1 k1 hxl
  obtain ⟨A1, c1, rfl, -⟩ := Held.rows (f := fun x : Bool × Int64 => [.leaf (.bool x.1), lfI x.2]) (n := 2) (fun _ => rfl) (by omega) h1
  have H1 := Lib.hid h1
  have K1 := Lib.hid k1
  have G1 := Lib.hid g1
  clear hk hv hxs h1 k1 g1
  go_wp2
  go_loopw [5, 16] (fun last i wr => FTrel' xs W1 last i wr) (fun _ i _ => xs.length - (intOf i).toNat)
  case atStart => exact ⟨0, Nat.zero_le _, rfl, rfl, Below.refl _ _⟩
  case round =>
    obtain ⟨k, hk', rfl, rfl, hbel⟩ := hrel
    have hz := hbel.size
    by_cases hlt : k < xs.length
    · obtain ⟨b, off, us, rfl, hsb, hul, hcu, hhu⟩ := Held.row_at (D := fun x : Bool × Int64 => [.leaf (.bool x.1), lfI x.2]) (fun _ => rfl) (by omega) (H1.out.past hbel) hlt
      have HL := Lib.hid (lastOwn_take hlt)
      obtain ⟨v0, v1, rfl⟩ : ∃ v0 v1, us = [v0, v1] := by
        match us, hul with
        | [a, b], _ => exact ⟨a, b, rfl⟩
      have c0 := hcu 0 v0 rfl
      have c1' := hcu 1 v1 rfl
      have e0 := (hhu 0 (by simp) (by simp)).leaf_eq
      have e1 := (hhu 1 (by simp) (by simp)).leaf_eq
      simp only [List.getElem_cons_zero] at e0
      simp only [List.getElem_cons_succ, List.getElem_cons_zero] at e1
      subst e0 e1
      clear hcu hhu
      rw [Nat.add_zero] at c0
      obtain ⟨own, hown⟩ : ∃ o, xs[k].1 = o := ⟨_, rfl⟩
      rw [hown] at c0 HL
      clear hown
      cases own
      all_goals
        go_wp2
        go_roundw
        case rel => exact ⟨k + 1, by omega, by go_num, by rw [HL.out]; rfl, hbel.alloc hz _⟩
        case measure => simp [intOf]; omega
    · have hke : k = xs.length := by omega
      subst hke
      rw [List.take_length]
      have he : Hid (decide (lastOwn xs = 17) = ((lastOwn xs).toInt == 17)) := Lib.hid (by rw [decide_eq_decide.2 (i64_eq _ 17 17 rfl)]; rfl)
      generalize (lastOwn xs).toInt = li at *
      go_wp2
      go_ret
      rw [HE.out, he.out]
      exact ⟨rfl, K1.out.past hbel, grown_trans G1.out (grown_past hbel _)⟩
end
end Go.Proofs.YtlhpmlknmgocoaaGreat
