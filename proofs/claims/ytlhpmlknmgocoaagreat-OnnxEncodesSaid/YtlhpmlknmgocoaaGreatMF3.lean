import Derived.Test.YtlhpmlknmgocoaaGreatMF2
import Derived.Deep.RegionHeld3
import Derived.Deep.CutBlock
/- The document's answer: a node's message, a value's. -/
namespace Go.Proofs.YtlhpmlknmgocoaaGreat
set_option linter.unusedSimpArgs false
set_option linter.unusedVariables false
open Go.RowKit

def NBrel {α : Type} (pre : List UInt8) (f : α → Fld) (l : List α) (W : World) (out i : Value) (w' : World) : Prop :=
  ∃ k : Nat, k ≤ l.length ∧ i = .int .i64 (k : Int) ∧ OB w' W.heap.size out (pre ++ wr ((l.take k).map f)) ∧ Below W.heap.size W w'
theorem wr_tk {α : Type} (f : α → Fld) (l : List α) (k : Nat) : (wr ((l.take k).map f)).length ≤ (wr (l.map f)).length := by
  have h : l.map f = (l.take k).map f ++ (l.drop k).map f := by rw [← List.map_append, List.take_append_drop]
  rw [h, wr_app, List.length_append]; omega
theorem wr_snoc {α : Type} (f : α → Fld) {l : List α} {k : Nat} (h : k < l.length) : wr ((l.take (k + 1)).map f) = wr ((l.take k).map f) ++ wr [f l[k]] := by
  rw [map_snoc f h, wr_app]
theorem wr_one_le {α : Type} (f : α → Fld) {l : List α} {k : Nat} (h : k < l.length) : (wr [f l[k]]).length ≤ (wr (l.map f)).length := by
  have h1 := wr_tk f l (k + 1)
  rw [wr_snoc f h, List.length_append] at h1; omega
theorem nodF_parts {n : Nod} (h : NdOk n) : (wr (n.ins.map (dF 1))).length + (wr (n.outs.map (dF 2))).length + (wr (nameF 3 n.name)).length + (wr [dF 4 n.op]).length + (wr (n.attrs.map fun a => dF 5 (wr (attF a)))).length ≤ 2700000 ∧
    wr (nodF n) = ((([] ++ wr (n.ins.map (dF 1))) ++ wr (n.outs.map (dF 2))) ++ wr (nameF 3 n.name)) ++ wr [dF 4 n.op] ++ wr (n.attrs.map fun a => dF 5 (wr (attF a))) := by
  have h1 := nodF_len h
  have h2 : (n.attrs.map fun a => dF 5 (encW (attF a))) = n.attrs.map fun a => dF 5 (wr (attF a)) :=
    List.map_congr_left fun a ha => by rw [encW_wr (attF_ok a) (by have := attF_len (h.att a ha); omega)]
  unfold nodF at h1 ⊢
  rw [h2] at h1 ⊢
  simp only [wr_app, List.length_append, List.nil_append] at h1 ⊢
  exact ⟨h1, trivial⟩
theorem NdOk.op {n : Nod} (h : NdOk n) : n.op.length ≤ 256 ∧ n.name.length ≤ 256 ∧ (∀ s ∈ n.ins, s.length ≤ 256) ∧ (∀ s ∈ n.outs, s.length ≤ 256) := by
  have h1 := h.many
  simp only [manyN, longP, Bool.or_eq_false_iff, decide_eq_false_iff_not] at h1
  obtain ⟨⟨⟨⟨⟨⟨⟨h2, h3⟩, h4⟩, h5⟩, -⟩, -⟩, -⟩, -⟩ := h1
  exact ⟨by omega, by omega, long_all h4, long_all h5⟩
section
variable {w : World} {S : Nat → Prop} {us : List Value}
set_option maxRecDepth 100000 in
set_option maxHeartbeats 6400000 in
theorem fnodeOf_any {n : Nod} (hl : HL w S (datN n) us) (ha : NdOk n) :
    Calls Tryz.prog 14 #[.agg us.toArray] w (MadeB w (wr (nodF n))) := by
  obtain ⟨A1, c1, A2, c2, A3, c3, rfl, hi, ho, hat, b1, b2, b3⟩ := hl.nod
  have hop := ha.op
  have HAT := Lib.hid ha.att
  obtain ⟨hpl, hpe⟩ := nodF_parts ha
  have HT := Lib.hid hpe
  obtain ⟨op, nm, ins, outs, attrs⟩ := n
  dsimp only at *
  obtain ⟨o1, o2, o3, o4⟩ := hop
  have HO3 := Lib.hid o3
  have HO4 := Lib.hid o4
  clear hl ha hpe o3 o4
  obtain ⟨W1, hW1⟩ : ∃ W1, w.alloc (.cells #[.string ⟨op.toArray⟩, .string ⟨nm.toArray⟩, .slice A1 ins.length c1, .slice A2 outs.length c2, .slice A3 attrs.length c3] 48) = W1 := ⟨_, rfl⟩
  obtain ⟨p, hp⟩ : ∃ p, w.heap.size = p := ⟨_, rfl⟩
  have hb1 : Blk W1 p 48 #[.string ⟨op.toArray⟩, .string ⟨nm.toArray⟩, .slice A1 ins.length c1, .slice A2 outs.length c2, .slice A3 attrs.length c3] := by rw [← hW1, ← hp]; exact Blk.new _ _ _
  have hbel : Below w.heap.size w W1 := by rw [← hW1]; exact (Below.refl _ _).alloc (Nat.le_refl _) _
  have HBW := Lib.hid hbel
  have HI := Lib.hid (hi.past hbel)
  have HO := Lib.hid (ho.past hbel)
  have HA := Lib.hid (hat.past hbel)
  have HB1 := Lib.hid hb1
  obtain ⟨F5, hF5⟩ : ∃ F : Atr → Fld, (fun a => dF 5 (wr (attF a))) = F := ⟨_, rfl⟩
  rw [hF5] at HT hpl
  have HF5 := Lib.hid hF5
  obtain ⟨L3, hE3⟩ : ∃ L, wr (nameF 3 nm) = L := ⟨_, rfl⟩
  obtain ⟨L4, hE4⟩ : ∃ L, wr [dF 4 op] = L := ⟨_, rfl⟩
  rw [hE3] at HT hpl
  rw [hE4] at HT hpl
  have HE3 := Lib.hid hE3
  have HE4 := Lib.hid hE4
  have hcvx : Hid (∀ (s : List UInt8) (w : World), (convert 9 28 (.string ⟨s.toArray⟩)).run Tryz.prog w = .ok (.slice (some ⟨w.heap.size, 0, none⟩) s.length (grownCap w s.length 0 5)) (Lib.bytesWorld w 5 ⟨s.toArray⟩)) := Lib.hid (fun s w =>
    Lib.run_convert_string_bytes w _ _ _ _ Tryz.underlying9 Tryz.underlying28 Tryz.underlying5)
  clear hbel hi ho hat hb1 hF5 hE3 hE4
  obtain ⟨p0, p1, p2, p3, p4, -, -, -, -, -, lp⟩ := blkc5 HB1.out
  go_enter Tryz.func14, Tryz.ntmps14
  go_upto_region 1 with fail
  try rw [hW1]
  try rw [hp]
  clear hW1 hp
  go_wp2
  go_loopw [3, 4] (fun out i wq => NBrel ([]) (dF 1) ins W1 out i wq) (fun _ i _ => ins.length - (intOf i).toNat)
  case atStart => exact ⟨0, Nat.zero_le _, rfl, by exact OB.nil _ _, Below.refl _ _⟩
  case round =>
    obtain ⟨k, hk, rfl, hown, bel1⟩ := hrel
    have z1 := bel1.size
    have hwt := wr_tk (dF 1) ins k
    clear p0 p1 p2 p3 p4 lp
    obtain ⟨p0, p1, p2, p3, p4, -, -, -, -, -, lp⟩ := blkc5 (HB1.out.below bel1 HB1.out.lt)
    by_cases hlt : k < ins.length
    · obtain ⟨bx, off, rfl, -, hc0⟩ := (HI.out.past bel1).str_at hlt
      have HTK := Lib.hid (wr_snoc (dF 1) hlt)
      have hw1 := wr_one_le (dF 1) hlt
      have hsm := HO3.out _ (List.getElem_mem hlt)
      generalize ins[k] = s at *
      have hbb := below_bytes wr 5 ⟨s.toArray⟩
      have ho0 := OB.below hown hbb (Nat.le_refl _)
      have bel0 := bel1.trans (hbb.mono z1)
      have hcv := hcvx.out s
      have HC := Lib.hid (fblock_any 1 (by omega) (by omega) (held_bytes wr s (by omega)) (by omega))
      generalize Go.Proofs.YtlhpmlknmgocoaaGreat.wr [dF 1 s] = m at *
      clear hbb hown
      go_wp2_with fail
      refine Calls.mono (HC.out) ?_
      rintro e W4 ⟨v4, rfl, hm4, hb4⟩
      obtain ⟨A4, n4, c4, rfl, hn4, -, -, hr4⟩ := hm4.form2
      have bel4 := bel0.trans (hb4.mono bel0.size)
      have z4 := bel4.size
      have ho4 := OB.below ho0 hb4 (Nat.le_refl _)
      clear p0 p1 p2 p3 p4 lp
      go_wp2_with (at_builtin
                   go_must (refine append_bytes rfl _ _ rfl ho4 rfl (m) rfl hn4.out hr4 (by first | omega | (simp only [List.length_append, List.length_nil]; omega)) z4 ?_; intro v4' W4' ho4' hg4' ha4')
                   have bel4' := grown_below ho4 hg4' z4 (Nat.le_refl _) bel4
                   obtain ⟨A4', n4', c4', rfl, -, -, -, -⟩ := ho4'.form2)
      go_roundw
      case rel => exact ⟨k + 1, hlt, by go_num, by rw [HTK.out, ← List.append_assoc]; exact ho4', bel4'⟩
      case measure => simp [intOf]; omega
    · have hke : k = ins.length := by omega
      subst hke
      rw [List.take_length] at hown
      have HOW := Lib.hid hown
      have HBL := Lib.hid bel1
      clear hown bel1 hwt z1
      obtain ⟨P1, hP1⟩ : ∃ P, [] ++ Go.Proofs.YtlhpmlknmgocoaaGreat.wr (ins.map (dF 1)) = P := ⟨_, rfl⟩
      have hp1 : P1.length = (Go.Proofs.YtlhpmlknmgocoaaGreat.wr (ins.map (dF 1))).length := by rw [← hP1]; simp
      rw [hP1] at HT HOW
      clear hP1
      go_wp2
      go_loopw [3, 5] (fun out i wq => NBrel (P1) (dF 2) outs W1 out i wq) (fun _ i _ => outs.length - (intOf i).toNat)
      case atStart => exact ⟨0, Nat.zero_le _, rfl, by simpa [Go.Proofs.YtlhpmlknmgocoaaGreat.wr] using HOW.out, HBL.out⟩
      case round =>
        obtain ⟨k, hk, rfl, hown, bel1⟩ := hrel
        have z1 := bel1.size
        have hwt := wr_tk (dF 2) outs k
        clear p0 p1 p2 p3 p4 lp
        obtain ⟨p0, p1, p2, p3, p4, -, -, -, -, -, lp⟩ := blkc5 (HB1.out.below bel1 HB1.out.lt)
        by_cases hlt : k < outs.length
        · obtain ⟨bx, off, rfl, -, hc0⟩ := (HO.out.past bel1).str_at hlt
          have HTK := Lib.hid (wr_snoc (dF 2) hlt)
          have hw1 := wr_one_le (dF 2) hlt
          have hsm := HO4.out _ (List.getElem_mem hlt)
          generalize outs[k] = s at *
          have hbb := below_bytes wr 5 ⟨s.toArray⟩
          have ho0 := OB.below hown hbb (Nat.le_refl _)
          have bel0 := bel1.trans (hbb.mono z1)
          have hcv := hcvx.out s
          have HC := Lib.hid (fblock_any 2 (by omega) (by omega) (held_bytes wr s (by omega)) (by omega))
          generalize Go.Proofs.YtlhpmlknmgocoaaGreat.wr [dF 2 s] = m at *
          clear hbb hown
          go_wp2_with fail
          refine Calls.mono (HC.out) ?_
          rintro e W4 ⟨v4, rfl, hm4, hb4⟩
          obtain ⟨A4, n4, c4, rfl, hn4, -, -, hr4⟩ := hm4.form2
          have bel4 := bel0.trans (hb4.mono bel0.size)
          have z4 := bel4.size
          have ho4 := OB.below ho0 hb4 (Nat.le_refl _)
          clear p0 p1 p2 p3 p4 lp
          go_wp2_with (at_builtin
                       go_must (refine append_bytes rfl _ _ rfl ho4 rfl (m) rfl hn4.out hr4 (by first | omega | (simp only [List.length_append, List.length_nil]; omega)) z4 ?_; intro v4' W4' ho4' hg4' ha4')
                       have bel4' := grown_below ho4 hg4' z4 (Nat.le_refl _) bel4
                       obtain ⟨A4', n4', c4', rfl, -, -, -, -⟩ := ho4'.form2)
          go_roundw
          case rel => exact ⟨k + 1, hlt, by go_num, by rw [HTK.out, ← List.append_assoc]; exact ho4', bel4'⟩
          case measure => simp [intOf]; omega
        · have hke : k = outs.length := by omega
          subst hke
          rw [List.take_length] at hown
          obtain ⟨P2, hP2⟩ : ∃ P, P1 ++ Go.Proofs.YtlhpmlknmgocoaaGreat.wr (outs.map (dF 2)) = P := ⟨_, rfl⟩
          have hp2 : P2.length = P1.length + (Go.Proofs.YtlhpmlknmgocoaaGreat.wr (outs.map (dF 2))).length := by rw [← hP2]; simp
          rw [hP2] at HT hown
          have HC3 := Lib.hid (fword_any (w := wr) 3 (by omega) (by omega) (s := nm) (by omega))
          rw [HE3.out] at HC3
          obtain ⟨A9, n9, c9, rfl, -, -, -, -⟩ := hown.form2
          clear hP2 hwt
          go_wp2_with fail
          refine Calls.mono (HC3.out) ?_
          rintro e W2 ⟨v2, rfl, hm2, hb2⟩
          obtain ⟨A2, n2, c2, rfl, hn2, -, -, hr2⟩ := hm2.form2
          have bel2 := bel1.trans (hb2.mono bel1.size)
          have z2 := bel2.size
          have ho2 := OB.below hown hb2 (Nat.le_refl _)
          clear p0 p1 p2 p3 p4 lp
          go_upto_region 11 with (at_builtin
                                  go_must (refine append_bytes rfl _ _ rfl ho2 rfl (L3) rfl hn2.out hr2 (by first | omega | (simp only [List.length_append, List.length_nil]; omega)) z2 ?_; intro v2' W2' ho2' hg2' ha2')
                                  have bel2' := grown_below ho2 hg2' z2 (Nat.le_refl _) bel2
                                  obtain ⟨p0, p1, p2, p3, p4, -, -, -, -, -, lp⟩ := blkc5 (HB1.out.below bel2' HB1.out.lt)
                                  obtain ⟨A2', n2', c2', rfl, -, -, -, -⟩ := ho2'.form2)
          have hbb := below_bytes W2' 5 ⟨op.toArray⟩
          have ho0 := OB.below ho2' hbb (Nat.le_refl _)
          have bel0 := bel2'.trans (hbb.mono bel2'.size)
          have hcv := hcvx.out op
          have HC4 := Lib.hid (fblock_any 4 (by omega) (by omega) (held_bytes W2' op (by omega)) (by omega))
          rw [HE4.out] at HC4
          go_wp2_with fail
          refine Calls.mono (HC4.out) ?_
          rintro e W4 ⟨v4, rfl, hm4, hb4⟩
          obtain ⟨A4, n4, c4, rfl, hn4, -, -, hr4⟩ := hm4.form2
          have bel4 := bel0.trans (hb4.mono bel0.size)
          have z4 := bel4.size
          have ho4 := OB.below ho0 hb4 (Nat.le_refl _)
          clear p0 p1 p2 p3 p4 lp
          go_upto_region 12 with (at_builtin
                                  go_must (refine append_bytes rfl _ _ rfl ho4 rfl (L4) rfl hn4.out hr4 (by first | omega | (simp only [List.length_append, List.length_nil]; omega)) z4 ?_; intro v4' W4' ho4' hg4' ha4')
                                  have bel4' := grown_below ho4 hg4' z4 (Nat.le_refl _) bel4
                                  obtain ⟨p0, p1, p2, p3, p4, -, -, -, -, -, lp⟩ := blkc5 (HB1.out.below bel4' HB1.out.lt)
                                  obtain ⟨A4', n4', c4', rfl, -, -, -, -⟩ := ho4'.form2)
          obtain ⟨P4, hP4⟩ : ∃ P, (P2 ++ L3) ++ L4 = P := ⟨_, rfl⟩
          have hp4 : P4.length = P2.length + L3.length + L4.length := by rw [← hP4]; simp [Nat.add_assoc]
          rw [hP4] at HT ho4'
          have HOW4 := Lib.hid ho4'
          have HBL4 := Lib.hid bel4'
          clear hP4 hcv hbb ho0 bel0 ho4' bel4' hown bel1 z1 hm2 hb2 hr2 hn2 bel2 z2 ho2 hg2' ha2' bel2' ho2' hm4 hb4 hr4 hn4 bel4 z4 ho4 hg4' ha4' HC3 HC4
          go_wp2
          go_loopw [3, 6] (fun out i wq => NBrel (P4) (F5) attrs W1 out i wq) (fun _ i _ => attrs.length - (intOf i).toNat)
          case atStart => exact ⟨0, Nat.zero_le _, rfl, by simpa [Go.Proofs.YtlhpmlknmgocoaaGreat.wr] using HOW4.out, HBL4.out⟩
          case round =>
            obtain ⟨k, hk, rfl, hown, bel1⟩ := hrel
            have z1 := bel1.size
            have hwt := wr_tk F5 attrs k
            clear p0 p1 p2 p3 p4 lp
            obtain ⟨p0, p1, p2, p3, p4, -, -, -, -, -, lp⟩ := blkc5 (HB1.out.below bel1 HB1.out.lt)
            by_cases hlt : k < attrs.length
            · obtain ⟨bx, off, D1, d1, D2, d2, D3, d3, D4, d4, D5, d5, D6, d6, rfl, hla, a0, a1, a2, a3, a4, a5, a6, a7, a8, a9, a10, a11⟩ := (HA.out.past bel1).att_at hlt
              have HTK := Lib.hid (wr_snoc F5 hlt)
              have hw1 := wr_one_le F5 hlt
              have hok := HAT.out _ (List.getElem_mem hlt)
              have hal := attF_len hok
              generalize attrs[k] = a at *
              have HFA : Hid (F5 a = dF 5 (Go.Proofs.YtlhpmlknmgocoaaGreat.wr (attF a))) := Lib.hid (by rw [← HF5.out])
              rw [HFA.out] at HTK hw1
              have HC := Lib.hid (fattrOf_any hla hok)
              generalize Go.Proofs.YtlhpmlknmgocoaaGreat.wr (attF a) = ab at *
              clear hla hok
              go_wp2_with fail
              refine Calls.mono (HC.out) ?_
              rintro e W4 ⟨v4, rfl, hm4, hb4⟩
              obtain ⟨A4, n4, c4, rfl, hn4, -, -, hr4⟩ := hm4.form2
              have bel4 := bel1.trans (hb4.mono bel1.size)
              have z4 := bel4.size
              have ho4 := OB.below hown hb4 (Nat.le_refl _)
              have HC5 := Lib.hid (fblock_any 5 (by omega) (by omega) (hm4.held (by omega)) (by omega))
              generalize Go.Proofs.YtlhpmlknmgocoaaGreat.wr [dF 5 ab] = m at *
              clear a0 a1 a2 a3 a4 a5 a6 a7 a8 a9 a10 a11
              go_wp2_with fail
              refine Calls.mono (HC5.out) ?_
              rintro e W5 ⟨v5, rfl, hm5, hb5⟩
              obtain ⟨A5, n5, c5, rfl, hn5, -, -, hr5⟩ := hm5.form2
              have bel5 := bel4.trans (hb5.mono bel4.size)
              have z5 := bel5.size
              have ho5 := OB.below ho4 hb5 (Nat.le_refl _)
              clear p0 p1 p2 p3 p4 lp
              go_wp2_with (at_builtin
                           go_must (refine append_bytes rfl _ _ rfl ho5 rfl (m) rfl hn5.out hr5 (by first | omega | (simp only [List.length_append, List.length_nil]; omega)) z5 ?_; intro v5' W5' ho5' hg5' ha5')
                           have bel5' := grown_below ho5 hg5' z5 (Nat.le_refl _) bel5
                           obtain ⟨A5', n5', c5', rfl, -, -, -, -⟩ := ho5'.form2)
              go_roundw
              case rel => exact ⟨k + 1, hlt, by go_num, by rw [HTK.out, ← List.append_assoc]; exact ho5', bel5'⟩
              case measure => simp [intOf]; omega
            · have hke : k = attrs.length := by omega
              subst hke
              rw [List.take_length] at hown
              go_wp2
              go_ret
              exact MadeB.mk HBW.out hown bel1 HT.out
set_option maxRecDepth 100000 in
set_option maxHeartbeats 6400000 in
theorem fvalueOf_any {x : Va} (hl : HL w S (datV x) us) (hx : VaOk x) :
    Calls Tryz.prog 17 #[.agg us.toArray] w (MadeB w (wr (valF x))) := by
  have h8 := cnt_len hx.err
  have hnm := hx.name
  have hsl := shpF_len h8
  have htl := tyF_len h8
  obtain ⟨hve, hvl⟩ := valF_eq h8
  obtain ⟨A1, c1, rfl, hdm, b1⟩ := hl.val
  have HT : Hid (wr (valF x) = wr (nameF 1 x.name) ++ wr [dF 2 (wr [dF 1 (wr (tyF x))])]) := Lib.hid (by rw [hve, wr_app])
  have HTY : Hid (wr (tyF x) = wr [vF 1 (u64 x.ty)] ++ wr [dF 2 (wr (shpF x.dims))]) := Lib.hid (by
    rw [← wr_app]; rfl)
  obtain ⟨nm, ty, dims⟩ := x
  dsimp only at *
  obtain ⟨F1, hF1⟩ : ∃ F : Int64 → Fld, (fun d => dF 1 (wr [vF 1 (u64 d)])) = F := ⟨_, rfl⟩
  have hsf : shpF dims = dims.map F1 := by
    rw [← hF1]; unfold shpF
    exact List.map_congr_left fun d _ => by rw [encW_wr (dimF_ok d) (by have := dimF_len d; omega)]
  rw [hsf] at hsl HTY
  have HF1 := Lib.hid hF1
  have HU := Lib.hid (u64_wrap ty)
  have HU2 := Lib.hid (u64_lt ty)
  have hL1 := wr_name_len 1 nm
  have hL2 : (wr [vF 1 (u64 ty)]).length ≤ 20 := by rw [wr_one]; exact wrF_v_len 1 _
  have hL3 : (wr [dF 2 (wr (dims.map F1))]).length ≤ 20 + (wr (dims.map F1)).length := by rw [wr_one]; exact wrF_d_len 2 _
  have hL5 : (wr [dF 2 (wr [dF 1 (wr (tyF ⟨nm, ty, dims⟩))])]).length ≤ 20 + (wr [dF 1 (wr (tyF ⟨nm, ty, dims⟩))]).length := by rw [wr_one]; exact wrF_d_len 2 _
  obtain ⟨TB, hTB⟩ : ∃ x, wr (tyF ⟨nm, ty, dims⟩) = x := ⟨_, rfl⟩
  rw [hTB] at HT HTY hL5 htl hvl
  clear hl hx hve hTB hF1 hsf
  obtain ⟨yt, hyt⟩ : ∃ y, u64 ty = y := ⟨_, rfl⟩
  rw [hyt] at HTY HU HU2 hL2
  clear hyt
  obtain ⟨W1, hW1⟩ : ∃ W1, w.alloc (.cells #[.string ⟨nm.toArray⟩, .int .i64 ty.toInt, .slice A1 dims.length c1] 37) = W1 := ⟨_, rfl⟩
  obtain ⟨p, hp⟩ : ∃ p, w.heap.size = p := ⟨_, rfl⟩
  have hb1 : Blk W1 p 37 #[.string ⟨nm.toArray⟩, .int .i64 ty.toInt, .slice A1 dims.length c1] := by rw [← hW1, ← hp]; exact Blk.new _ _ _
  have hbel : Below w.heap.size w W1 := by rw [← hW1]; exact (Below.refl _ _).alloc (Nat.le_refl _) _
  have HBW := Lib.hid hbel
  have HD := Lib.hid (hdm.past hbel)
  have HB1 := Lib.hid hb1
  generalize ty.toInt = ti at *
  clear hbel hdm hb1
  obtain ⟨p0, p1, p2, -, -, -, lp⟩ := blkc3 HB1.out
  go_enter Tryz.func17, Tryz.ntmps17
  go_upto_region 1 with fail
  try rw [hW1]
  try rw [hp]
  clear hW1 hp
  go_wp2
  go_loopw [3, 4] (fun out i wq => NBrel [] F1 dims W1 out i wq) (fun _ i _ => dims.length - (intOf i).toNat)
  case atStart => exact ⟨0, Nat.zero_le _, rfl, by exact OB.nil _ _, Below.refl _ _⟩
  case round =>
    obtain ⟨k, hk, rfl, hown, bel1⟩ := hrel
    have z1 := bel1.size
    have hwt := wr_tk F1 dims k
    clear p0 p1 p2 lp
    obtain ⟨p0, p1, p2, -, -, -, lp⟩ := blkc3 (HB1.out.below bel1 HB1.out.lt)
    by_cases hlt : k < dims.length
    · obtain ⟨bx, off, rfl, -, hc0⟩ := (HD.out.past bel1).int_at hlt
      have HTK := Lib.hid (wr_snoc F1 hlt)
      have hw1 := wr_one_le F1 hlt
      have HV := Lib.hid (u64_wrap dims[k])
      have HV2 := Lib.hid (u64_lt dims[k])
      have HFA : Hid (F1 dims[k] = dF 1 (Go.Proofs.YtlhpmlknmgocoaaGreat.wr [vF 1 (Go.Proofs.YtlhpmlknmgocoaaGreat.u64 dims[k])])) := Lib.hid (by rw [← HF1.out])
      rw [HFA.out] at HTK hw1
      generalize Go.Proofs.YtlhpmlknmgocoaaGreat.u64 dims[k] = y at *
      generalize dims[k].toInt = dd at *
      have hdl : (Go.Proofs.YtlhpmlknmgocoaaGreat.wr [vF 1 y]).length ≤ 20 := by rw [wr_one]; exact wrF_v_len 1 _
      have HC := Lib.hid (fnumber_at (w := wr) 1 (by omega) (by omega) y HV.out HV2.out)
      generalize Go.Proofs.YtlhpmlknmgocoaaGreat.wr [vF 1 y] = nb at *
      go_wp2_with fail
      refine Calls.mono (HC.out) ?_
      rintro e W4 ⟨v4, rfl, hm4, hb4⟩
      obtain ⟨A4, n4, c4, rfl, hn4, -, -, hr4⟩ := hm4.form2
      have bel4 := bel1.trans (hb4.mono bel1.size)
      have z4 := bel4.size
      have ho4 := OB.below hown hb4 (Nat.le_refl _)
      have HC5 := Lib.hid (fblock_any 1 (by omega) (by omega) (hm4.held (by omega)) (by omega))
      generalize Go.Proofs.YtlhpmlknmgocoaaGreat.wr [dF 1 nb] = m at *
      go_wp2_with fail
      refine Calls.mono (HC5.out) ?_
      rintro e W5 ⟨v5, rfl, hm5, hb5⟩
      obtain ⟨A5, n5, c5, rfl, hn5, -, -, hr5⟩ := hm5.form2
      have bel5 := bel4.trans (hb5.mono bel4.size)
      have z5 := bel5.size
      have ho5 := OB.below ho4 hb5 (Nat.le_refl _)
      clear p0 p1 p2 lp
      go_wp2_with (at_builtin
                   go_must (refine append_bytes rfl _ _ rfl ho5 rfl (m) rfl hn5.out hr5 (by first | omega | (simp only [List.length_append, List.length_nil]; omega)) z5 ?_; intro v5' W5' ho5' hg5' ha5')
                   have bel5' := grown_below ho5 hg5' z5 (Nat.le_refl _) bel5
                   obtain ⟨A5', n5', c5', rfl, -, -, -, -⟩ := ho5'.form2)
      go_roundw
      case rel => exact ⟨k + 1, hlt, by go_num, by rw [HTK.out, ← List.append_assoc]; exact ho5', bel5'⟩
      case measure => simp [intOf]; omega
    · have hke : k = dims.length := by omega
      subst hke
      rw [List.take_length, List.nil_append] at hown
      generalize Go.Proofs.YtlhpmlknmgocoaaGreat.wr (dims.map F1) = sb at *
      have HC3 := Lib.hid (fnumber_at (w := wr) 1 (by omega) (by omega) yt HU.out HU2.out)
      obtain ⟨L2, hE2⟩ : ∃ L, Go.Proofs.YtlhpmlknmgocoaaGreat.wr [vF 1 yt] = L := ⟨_, rfl⟩
      obtain ⟨L3, hE3⟩ : ∃ L, Go.Proofs.YtlhpmlknmgocoaaGreat.wr [dF 2 sb] = L := ⟨_, rfl⟩
      rw [hE2] at HC3 HTY hL2
      rw [hE3] at HTY hL3
      have HE3 := Lib.hid hE3
      obtain ⟨A9, n9, c9, rfl, -, -, -, -⟩ := hown.form2
      clear hwt hE2 hE3
      go_wp2_with fail
      refine Calls.mono (HC3.out) ?_
      rintro e W2 ⟨v2, rfl, hm2, hb2⟩
      obtain ⟨A2, n2, c2, rfl, hn2, -, -, hr2⟩ := hm2.form2
      have bel2 := bel1.trans (hb2.mono bel1.size)
      have z2 := bel2.size
      have hown2 := OB.below hown hb2 (Nat.le_refl _)
      have HC4 := Lib.hid (fblock_any 2 (by omega) (by omega) (hown2.held (by omega)) (by omega))
      rw [HE3.out] at HC4
      go_wp2_with fail
      refine Calls.mono (HC4.out) ?_
      rintro e W3 ⟨v3, rfl, hm3, hb3⟩
      obtain ⟨A3, n3, c3, rfl, hn3, -, -, hr3⟩ := hm3.form2
      have bel3 := bel2.trans (hb3.mono bel2.size)
      have z3 := bel3.size
      have ho3 := OB.below (OB.lower hm2 z1) hb3 (Nat.le_refl _)
      clear p0 p1 p2 lp
      go_upto_region 7 with (at_builtin
                             go_must (refine append_bytes rfl _ _ rfl ho3 rfl (L3) rfl hn3.out hr3 (by first | omega | (simp only [List.length_append, List.length_nil]; omega)) z3 ?_; intro v3' W3' ho3' hg3' ha3')
                             have bel3' := grown_below ho3 hg3' z3 (Nat.le_refl _) bel3
                             obtain ⟨p0, p1, p2, -, -, -, lp⟩ := blkc3 (HB1.out.below bel3' HB1.out.lt)
                             obtain ⟨A3', n3', c3', rfl, -, -, -, -⟩ := ho3'.form2)
      rw [← HTY.out] at ho3'
      have hz3' := bel3'.size
      have HC5 := Lib.hid (fword_any (w := W3') 1 (by omega) (by omega) (s := nm) (by omega))
      obtain ⟨L5, hE5⟩ : ∃ L, Go.Proofs.YtlhpmlknmgocoaaGreat.wr (nameF 1 nm) = L := ⟨_, rfl⟩
      rw [hE5] at HC5 HT hL1
      clear hE5 HC3 HC4
      go_wp2_with fail
      refine Calls.mono (HC5.out) ?_
      rintro e W4 ⟨v4, rfl, hm4, hb4⟩
      obtain ⟨A4, n4, c4, rfl, hn4, -, -, hr4⟩ := hm4.form2
      have bel4 := bel3'.trans (hb4.mono bel3'.size)
      have z4 := bel4.size
      have ho4 := OB.below ho3' hb4 (Nat.le_refl _)
      have HC6 := Lib.hid (fblock_any 1 (by omega) (by omega) (ho4.held (by omega)) (by omega))
      have z4' := hb4.size
      go_wp2_with fail
      refine Calls.mono (HC6.out) ?_
      rintro e W5 ⟨v5, rfl, hm5, hb5⟩
      obtain ⟨A5, n5, c5, rfl, hn5, -, -, hr5⟩ := hm5.form2
      have bel5 := bel4.trans (hb5.mono bel4.size)
      have z5 := bel5.size
      generalize Go.Proofs.YtlhpmlknmgocoaaGreat.wr [dF 1 TB] = t1 at *
      have HC7 := Lib.hid (fblock_any 2 (by omega) (by omega) (hm5.held (by omega)) (by omega))
      generalize Go.Proofs.YtlhpmlknmgocoaaGreat.wr [dF 2 t1] = t2 at *
      go_wp2_with fail
      refine Calls.mono (HC7.out) ?_
      rintro e W6 ⟨v6, rfl, hm6, hb6⟩
      obtain ⟨A6, n6, c6, rfl, hn6, -, -, hr6⟩ := hm6.form2
      have bel6 := bel5.trans (hb6.mono bel5.size)
      have z6 := bel6.size
      have ho6 := OB.lower (OB.below (OB.below hm4 hb5 (Nat.le_refl _)) hb6 (Nat.le_refl _)) hz3'
      clear p0 p1 p2 lp
      go_wp2_with (at_builtin
                   go_must (refine append_bytes rfl _ _ rfl ho6 rfl (t2) rfl hn6.out hr6 (by first | omega | (simp only [List.length_append, List.length_nil]; omega)) z6 ?_; intro v6' W6' ho6' hg6' ha6')
                   have bel6' := grown_below ho6 hg6' z6 (Nat.le_refl _) bel6
                   obtain ⟨A6', n6', c6', rfl, -, -, -, -⟩ := ho6'.form2)
      go_ret
      exact MadeB.mk HBW.out ho6' bel6' HT.out
end
end Go.Proofs.YtlhpmlknmgocoaaGreat

/- The document's Encode. -/
namespace Go.Proofs.YtlhpmlknmgocoaaGreat
set_option linter.unusedSimpArgs false
set_option linter.unusedVariables false
open Go.RowKit

def topB (g : List UInt8) : List UInt8 := (wr [vF 1 8] ++ wr [dF 7 g]) ++ wr [dF 8 (wr [vF 2 17])]
theorem topB_wr (g : List UInt8) : topB g = wr [vF 1 8, dF 7 g, dF 8 (encW [vF 2 17])] := by
  have h : wr [vF 2 17] = encW [vF 2 17] := by rw [set_bytes]; decide
  unfold topB
  rw [h, ← wr_app, ← wr_app]; rfl
theorem topB_len (g : List UInt8) : g.length ≤ (topB g).length ∧ (topB g).length ≤ 100 + g.length := by
  have h1 := wrF_bulk (f := dF 7 g) (by simp [mayF, mayN, dF])
  have h2 := wrF_d_len 7 g
  have h3 := wrF_v_len 1 8
  have h4 := wrF_d_len 8 (wr [vF 2 17])
  have h5 := wrF_v_len 2 17
  have e : (dF 7 g).data = g := rfl
  rw [e] at h1
  unfold topB
  simp only [List.length_append, wr_one] at *
  omega
theorem enc_plain {m : Mo} (h : chk false m = 0) : encM m = if 4194304 < (topB (wr (graF m))).length then ([], 8) else (topB (wr (graF m)), 0) := by
  have hall : (graF m).all mayF = true := List.all_eq_true.2 fun f hf => (graF_ok m f hf).1
  have hl := topB_len (wr (graF m))
  by_cases hg : 4194304 < (wr (graF m)).length
  · have hw : writeE (graF m) = ([], 8) := by unfold writeE; rw [if_pos hall, if_pos hg]
    rw [encM_gra h (by rw [hw]; decide), hw, if_pos (by omega)]
  · have hw : writeE (graF m) = (wr (graF m), 0) := by unfold writeE; rw [if_pos hall, if_neg hg]
    have he : encW (graF m) = wr (graF m) := by unfold encW; rw [hw]
    rw [encM_top h (by rw [hw]), he, topB_wr]
    unfold writeE
    rw [if_pos (List.all_eq_true.2 fun f hf => (top_ok _ _ f hf).1)]
theorem graF_parts {m : Mo} (h : MoOk' m) : wr (graF m) = ((((wr (m.nodes.map fun n => dF 1 (wr (nodF n)))) ++ wr (nameF 2 m.name)) ++ wr (m.inits.map fun c : Ini => dF 5 (wr (tenF c.name c.t)))) ++ wr (m.inputs.map fun v => dF 11 (wr (valF v)))) ++ wr (m.outputs.map fun v => dF 12 (wr (valF v))) := by
  have h1 : (m.nodes.map fun n => dF 1 (encW (nodF n))) = m.nodes.map fun n => dF 1 (wr (nodF n)) := List.map_congr_left fun n hn => by rw [encW_wr (nodF_ok n) (by have := nodF_len (h.nod n hn); omega)]
  have h2 : (m.inits.map fun c : Ini => dF 5 (encW (tenF c.name c.t))) = m.inits.map fun c : Ini => dF 5 (wr (tenF c.name c.t)) := List.map_congr_left fun c hc => by
    rw [encW_wr (tenF_ok _ _) (by have := tenF_len (name := c.name) (h.ini c hc).1 (h.ini c hc).2; omega)]
  have h3 : (m.inputs.map fun v => dF 11 (encW (valF v))) = m.inputs.map fun v => dF 11 (wr (valF v)) := List.map_congr_left fun v hv => by rw [encW_wr (valF_ok v) (by have := valF_len (h.inp v hv); omega)]
  have h4 : (m.outputs.map fun v => dF 12 (encW (valF v))) = m.outputs.map fun v => dF 12 (wr (valF v)) := List.map_congr_left fun v hv => by rw [encW_wr (valF_ok v) (by have := valF_len (h.out v hv); omega)]
  unfold graF
  rw [h1, h2, h3, h4]
  simp only [wr_app]
theorem wr_map_le {α : Type} (g : α → List UInt8) (num : Int) (B : Nat) (l : List α) (h : ∀ a ∈ l, (g a).length ≤ B) : (wr (l.map fun a => dF num (g a))).length ≤ l.length * (20 + B) :=
  wr_map_len _ _ l fun a ha => Nat.le_trans (wrF_d_len num (g a)) (by have := h a ha; omega)
section
variable {w : World} {S : Nat → Prop} {us : List Value}
set_option maxRecDepth 100000 in
set_option maxHeartbeats 20000000 in
theorem fencode_any {m : Mo} (hl : HL w S (datM m) us) : Calls Tryz.prog 5 #[.agg us.toArray] w (EncR w (encM m)) := by
  obtain ⟨A1, c1, A2, c2, A3, c3, A4, c4, rfl, hno, hin, hip, hou, b1, b2, b3, b4⟩ := hl.mod
  have HL0 := Lib.hid hl
  have HM : Hid (∀ (h : chk false m = 0), encM m = if 4194304 < (topB (wr (graF m))).length then ([], 8) else (topB (wr (graF m)), 0)) := Lib.hid fun h => enc_plain h
  have HE : Hid (∀ (h : ¬ chk false m = 0), encM m = ([], chk false m)) := Lib.hid fun h => encM_chk h
  have HOK : Hid (∀ (h : chk false m = 0), MoOk' m) := Lib.hid fun h => (MoOk.of h).ok
  have HGP : Hid (∀ (h : MoOk' m), wr (graF m) = _) := Lib.hid fun h => graF_parts h
  obtain ⟨em, hem⟩ : ∃ e, encM m = e := ⟨_, rfl⟩
  rw [hem] at HM HE ⊢
  generalize wr (graF m) = G at *
  obtain ⟨ck, hck⟩ : ∃ e, chk false m = e := ⟨_, rfl⟩
  obtain ⟨ops, nm, nodes, inits, inputs, outputs⟩ := m
  dsimp only at *
  rw [hck] at HM HE HOK
  obtain ⟨W1, hW1⟩ : ∃ W1, w.alloc (.cells #[.int .i64 ops.toInt, .string ⟨nm.toArray⟩, .slice A1 nodes.length c1, .slice A2 inits.length c2, .slice A3 inputs.length c3, .slice A4 outputs.length c4] 26) = W1 := ⟨_, rfl⟩
  obtain ⟨p, hp⟩ : ∃ p, w.heap.size = p := ⟨_, rfl⟩
  have hb1 : Blk W1 p 26 #[.int .i64 ops.toInt, .string ⟨nm.toArray⟩, .slice A1 nodes.length c1, .slice A2 inits.length c2, .slice A3 inputs.length c3, .slice A4 outputs.length c4] := by rw [← hW1, ← hp]; exact Blk.new _ _ _
  have hbel : Below w.heap.size w W1 := by rw [← hW1]; exact (Below.refl _ _).alloc (Nat.le_refl _) _
  have HBW := Lib.hid hbel
  have HC0 := Lib.hid (fcheck_any (HL0.out.keep (fun h => h.past hbel)))
  rw [hck] at HC0
  have HNO := Lib.hid (hno.past hbel)
  have HIN := Lib.hid (hin.past hbel)
  have HIP := Lib.hid (hip.past hbel)
  have HOU := Lib.hid (hou.past hbel)
  have HB1 := Lib.hid hb1
  clear hl hno hin hip hou hbel hb1 hck hem HL0
  obtain ⟨p0, p1, p2, p3, p4, p5, -, -, -, -, -, -, lp⟩ := blkc6 HB1.out
  go_enter Tryz.func5, Tryz.ntmps5
  go_upto_region 1 with fail
  try rw [hW1]
  try rw [hp]
  clear hW1 hp
  go_wp2_with fail
  refine Calls.mono HC0.out ?_
  rintro e W2 ⟨rfl, bel2⟩
  have HBel2 := Lib.hid bel2
  clear HC0
  by_cases hc0 : ck = 0
  case neg =>
    have e1 : (ck == 0) = false := by simpa using hc0
    have HR := Lib.hid (HE.out hc0)
    clear HM HE HOK HGP
    go_wp2
    go_ret2
    exact EncR.mk HR.out (Held.nil _ _ _ _ _ (by unfold maxLen; omega)) (HBW.out.trans (HBel2.out.mono HBW.out.size))
  subst hc0
  have hok := HOK.out rfl
  have HMM := Lib.hid (HM.out rfl)
  have HGG := Lib.hid (HGP.out hok)
  have hnm := hok.nm
  have ll1 := hok.l1
  have ll2 := hok.l2
  have ll3 := hok.l3
  have ll4 := hok.l4
  have HN := Lib.hid hok.nod
  have HI := Lib.hid hok.ini
  have HP := Lib.hid hok.inp
  have HO := Lib.hid hok.out
  clear HM HE HOK HGP hok
  dsimp only at *
  have hq1 := wr_map_le (fun n => wr (nodF n)) 1 2700000 nodes (fun n hn => nodF_len (HN.out n hn))
  have hq3 := wr_map_le (fun c : Ini => wr (tenF c.name c.t)) 5 33184 inits (fun c hc => tenF_len (HI.out c hc).1 (HI.out c hc).2)
  have hq4 := wr_map_le (fun v => wr (valF v)) 11 700 inputs (fun v hv => valF_len (HP.out v hv))
  have hq5 := wr_map_le (fun v => wr (valF v)) 12 700 outputs (fun v hv => valF_len (HO.out v hv))
  have hL2 := wr_name_len 2 nm
  obtain ⟨F1, hF1⟩ : ∃ F : Nod → Fld, (fun n => dF 1 (wr (nodF n))) = F := ⟨_, rfl⟩
  obtain ⟨F3, hF3⟩ : ∃ F : Ini → Fld, (fun c : Ini => dF 5 (wr (tenF c.name c.t))) = F := ⟨_, rfl⟩
  obtain ⟨F4, hF4⟩ : ∃ F : Va → Fld, (fun v => dF 11 (wr (valF v))) = F := ⟨_, rfl⟩
  obtain ⟨F5, hF5⟩ : ∃ F : Va → Fld, (fun v => dF 12 (wr (valF v))) = F := ⟨_, rfl⟩
  obtain ⟨L2, hE2⟩ : ∃ L, wr (nameF 2 nm) = L := ⟨_, rfl⟩
  rw [hF1] at HGG hq1
  rw [hF3] at HGG hq3
  rw [hF4] at HGG hq4
  rw [hF5] at HGG hq5
  rw [hE2] at HGG hL2
  have HF1 := Lib.hid hF1
  have HF3 := Lib.hid hF3
  have HF4 := Lib.hid hF4
  have HF5 := Lib.hid hF5
  have HE2 := Lib.hid hE2
  clear hF1 hF3 hF4 hF5 hE2
  have q1 : (wr (nodes.map F1)).length ≤ 3000000000 := by
    have : nodes.length * (20 + 2700000) ≤ 1024 * (20 + 2700000) := Nat.mul_le_mul_right _ ll1
    omega
  have q3 : (wr (inits.map F3)).length ≤ 100000000 := by
    have : inits.length * (20 + 33184) ≤ 1024 * (20 + 33184) := Nat.mul_le_mul_right _ ll2
    omega
  have q4 : (wr (inputs.map F4)).length ≤ 100000 := by
    have : inputs.length * (20 + 700) ≤ 64 * (20 + 700) := Nat.mul_le_mul_right _ ll3
    omega
  have q5 : (wr (outputs.map F5)).length ≤ 100000 := by
    have : outputs.length * (20 + 700) ≤ 64 * (20 + 700) := Nat.mul_le_mul_right _ ll4
    omega
  clear hq1 hq3 hq4 hq5 ll1 ll2 ll3 ll4
  go_wp2
  go_loopw [5, 6] (fun out i wq => NBrel ([]) F1 nodes W1 out i wq) (fun _ i _ => nodes.length - (intOf i).toNat)
  case atStart => exact ⟨0, Nat.zero_le _, rfl, by exact OB.nil _ _, HBel2.out⟩
  case round =>
    obtain ⟨k, hk, rfl, hown, bel1⟩ := hrel
    have z1 := bel1.size
    have hwt := wr_tk F1 nodes k
    clear p0 p1 p2 p3 p4 p5 lp
    obtain ⟨p0, p1, p2, p3, p4, p5, -, -, -, -, -, -, lp⟩ := blkc6 (HB1.out.below bel1 HB1.out.lt)
    by_cases hlt : k < nodes.length
    · obtain ⟨bx, off, D1, d1, D2, d2, D3, d3, rfl, hla, a0, a1, a2, a3, a4⟩ := (HNO.out.past bel1).nod_at hlt
      have HTK := Lib.hid (wr_snoc F1 hlt)
      have hw1 := wr_one_le F1 hlt
      have hok := HN.out _ (List.getElem_mem hlt)
      have hal := nodF_len hok
      generalize nodes[k] = a at *
      have HFA : Hid (F1 a = dF 1 (Go.Proofs.YtlhpmlknmgocoaaGreat.wr (nodF a))) := Lib.hid (by rw [← HF1.out])
      rw [HFA.out] at HTK hw1
      have HC := Lib.hid (fnodeOf_any hla hok)
      generalize Go.Proofs.YtlhpmlknmgocoaaGreat.wr (nodF a) = ab at *
      clear hla hok
      go_wp2_with fail
      refine Calls.mono (HC.out) ?_
      rintro e W4 ⟨v4, rfl, hm4, hb4⟩
      obtain ⟨A4, n4, c4, rfl, hn4, -, -, hr4⟩ := hm4.form2
      have bel4 := bel1.trans (hb4.mono bel1.size)
      have z4 := bel4.size
      have hown' := hown
      clear a0 a1 a2 a3 a4
      have ho4 := OB.below hown' hb4 (Nat.le_refl _)
      have HC5 := Lib.hid (fblock_any 1 (by omega) (by omega) (hm4.held (by omega)) (by omega))
      generalize Go.Proofs.YtlhpmlknmgocoaaGreat.wr [dF 1 ab] = m at *
      go_wp2_with fail
      refine Calls.mono (HC5.out) ?_
      rintro e W5 ⟨v5, rfl, hm5, hb5⟩
      obtain ⟨A5, n5, c5, rfl, hn5, -, -, hr5⟩ := hm5.form2
      have bel5 := bel4.trans (hb5.mono bel4.size)
      have z5 := bel5.size
      have ho5 := OB.below ho4 hb5 (Nat.le_refl _)
      clear p0 p1 p2 p3 p4 p5 lp
      go_wp2_with (at_builtin
                   go_must (refine append_bytes rfl _ _ rfl ho5 rfl (m) rfl hn5.out hr5 (by first | omega | (simp only [List.length_append, List.length_nil]; omega)) z5 ?_; intro v5' W5' ho5' hg5' ha5')
                   have bel5' := grown_below ho5 hg5' z5 (Nat.le_refl _) bel5
                   obtain ⟨A5', n5', c5', rfl, -, -, -, -⟩ := ho5'.form2)
      go_roundw
      case rel => exact ⟨k + 1, hlt, by go_num, by rw [HTK.out, ← List.append_assoc]; exact ho5', bel5'⟩
      case measure => simp [intOf]; omega
    · have hke : k = nodes.length := by omega
      subst hke
      rw [List.take_length] at hown
      obtain ⟨P1, hP1⟩ : ∃ P, [] ++ Go.Proofs.YtlhpmlknmgocoaaGreat.wr (nodes.map F1) = P := ⟨_, rfl⟩
      have hp1 : P1.length = (Go.Proofs.YtlhpmlknmgocoaaGreat.wr (nodes.map F1)).length := by rw [← hP1]; simp
      have hP1' : Go.Proofs.YtlhpmlknmgocoaaGreat.wr (nodes.map F1) = P1 := by rw [← hP1]; rfl
      rw [hP1] at hown
      rw [hP1'] at HGG
      have HC3 := Lib.hid (fword_any (w := wr) 2 (by omega) (by omega) (s := nm) (by omega))
      rw [HE2.out] at HC3
      obtain ⟨A9, n9, c9, rfl, -, -, -, -⟩ := hown.form2
      clear hP1 hP1' hwt
      go_wp2_with fail
      refine Calls.mono (HC3.out) ?_
      rintro e W7 ⟨v7, rfl, hm7, hb7⟩
      obtain ⟨A7, n7, c7, rfl, hn7, -, -, hr7⟩ := hm7.form2
      have bel7 := bel1.trans (hb7.mono bel1.size)
      have z7 := bel7.size
      have ho7 := OB.below hown hb7 (Nat.le_refl _)
      clear p0 p1 p2 p3 p4 p5 lp
      go_upto_region 10 with (at_builtin
                              go_must (refine append_bytes rfl _ _ rfl ho7 rfl (L2) rfl hn7.out hr7 (by first | omega | (simp only [List.length_append, List.length_nil]; omega)) z7 ?_; intro v7' W7' ho7' hg7' ha7')
                              have bel7' := grown_below ho7 hg7' z7 (Nat.le_refl _) bel7
                              obtain ⟨p0, p1, p2, p3, p4, p5, -, -, -, -, -, -, lp⟩ := blkc6 (HB1.out.below bel7' HB1.out.lt)
                              obtain ⟨A7', n7', c7', rfl, -, -, -, -⟩ := ho7'.form2)
      obtain ⟨P2, hP2⟩ : ∃ P, P1 ++ L2 = P := ⟨_, rfl⟩
      have hp2 : P2.length = P1.length + L2.length := by rw [← hP2]; simp
      rw [hP2] at HGG ho7'
      have HOW2 := Lib.hid ho7'
      have HBL2 := Lib.hid bel7'
      clear hP2 ho7' bel7' hown bel1 z1 hm7 hb7 hr7 hn7 bel7 z7 ho7 hg7' ha7' HC3
      go_wp2
      go_loopw [5, 7] (fun out i wq => NBrel (P2) F3 inits W1 out i wq) (fun _ i _ => inits.length - (intOf i).toNat)
      case atStart => exact ⟨0, Nat.zero_le _, rfl, by simpa [Go.Proofs.YtlhpmlknmgocoaaGreat.wr] using HOW2.out, HBL2.out⟩
      case round =>
        obtain ⟨k, hk, rfl, hown, bel1⟩ := hrel
        have z1 := bel1.size
        have hwt := wr_tk F3 inits k
        clear p0 p1 p2 p3 p4 p5 lp
        obtain ⟨p0, p1, p2, p3, p4, p5, -, -, -, -, -, -, lp⟩ := blkc6 (HB1.out.below bel1 HB1.out.lt)
        by_cases hlt : k < inits.length
        · obtain ⟨bx, off, D1, d1, D2, d2, D3, d3, D4, d4, rfl, hsb, hla, a0, a1, a2, a3, a4, a5⟩ := HIN.out.ini_at2 hlt
          have HTK := Lib.hid (wr_snoc F3 hlt)
          have hw1 := wr_one_le F3 hlt
          have hok := HI.out _ (List.getElem_mem hlt)
          have hal := tenF_len hok.1 hok.2
          obtain ⟨e0, e1, e2, e3⟩ := hok.1.small
          have hnl := hok.2
          have hly : (k : Int) < (inits.length : Int) := by omega
          generalize inits[k] = a at *
          have HFA : Hid (F3 a = dF 5 (Go.Proofs.YtlhpmlknmgocoaaGreat.wr (tenF a.name a.t))) := Lib.hid (by rw [← HF3.out])
          rw [HFA.out] at HTK hw1
          have q3 : W1.cell? ⟨p, 3, none⟩ = some (.slice (some ⟨bx, off, none⟩) inits.length c2) := HB1.out.cell 3
          have KEEP : Hid (∀ wz : World, Below W1.heap.size W1 wz → wz.cell? ⟨p, 3, none⟩ = some (.slice (some ⟨bx, off, none⟩) inits.length c2) ∧ wz.cell? ⟨bx, off + k * 6, none⟩ = some (.string ⟨a.name.toArray⟩) ∧ wz.cell? ⟨bx, off + k * 6 + 1, none⟩ = some (.int .i64 a.t.ty.toInt) ∧ wz.cell? ⟨bx, off + k * 6 + 2, none⟩ = some (.slice D1 a.t.dims.length d1) ∧ wz.cell? ⟨bx, off + k * 6 + 3, none⟩ = some (.slice D2 a.t.f.length d2) ∧ wz.cell? ⟨bx, off + k * 6 + 4, none⟩ = some (.slice D3 a.t.i.length d3) ∧ wz.cell? ⟨bx, off + k * 6 + 5, none⟩ = some (.slice D4 a.t.b.length d4)) := Lib.hid fun wz hb =>
            ⟨(hb.cell (World.block_lt_of_cell? W1 _ q3)).trans q3, (hb.cell (World.block_lt_of_cell? W1 _ a0)).trans a0, (hb.cell (World.block_lt_of_cell? W1 _ a1)).trans a1, (hb.cell (World.block_lt_of_cell? W1 _ a2)).trans a2, (hb.cell (World.block_lt_of_cell? W1 _ a3)).trans a3, (hb.cell (World.block_lt_of_cell? W1 _ a4)).trans a4, (hb.cell (World.block_lt_of_cell? W1 _ a5)).trans a5⟩
          clear a0 a1 a2 a3 a4 a5 q3
          obtain ⟨q3, a0, a1, a2, a3, a4, a5⟩ := KEEP.out wr bel1
          have hbd : Below wr.heap.size wr wr.drew := below_drewN (Below.refl _ _) 1
          have hownd := OB.below hown hbd (Nat.le_refl _)
          have beld := bel1.trans (hbd.mono z1)
          have HC := Lib.hid (ftensor_any (name := a.name) (hla.keep (fun h => h.past beld)) (by omega) (by omega) (by omega) (by omega) (by omega))
          generalize Go.Proofs.YtlhpmlknmgocoaaGreat.wr (tenF a.name a.t) = ab at *
          clear hla hok hsb hbd p0 p1 p2 p3 p4 p5 lp
          go_upto_region 13 with fail
          go_region_held3 (fun w' => w'.cell? ⟨p, 3, none⟩ = some (.slice (some ⟨bx, off, none⟩) inits.length c2) ∧ w'.cell? ⟨bx, off + k * 6, none⟩ = some (.string ⟨a.name.toArray⟩) ∧ w'.cell? ⟨bx, off + k * 6 + 1, none⟩ = some (.int .i64 a.t.ty.toInt) ∧ w'.cell? ⟨bx, off + k * 6 + 2, none⟩ = some (.slice D1 a.t.dims.length d1) ∧ w'.cell? ⟨bx, off + k * 6 + 3, none⟩ = some (.slice D2 a.t.f.length d2) ∧ w'.cell? ⟨bx, off + k * 6 + 4, none⟩ = some (.slice D3 a.t.i.length d3) ∧ w'.cell? ⟨bx, off + k * 6 + 5, none⟩ = some (.slice D4 a.t.b.length d4)) (first | exact KEEP.out _ bel6 | exact KEEP.out _ bel5 | exact KEEP.out _ bel4 | exact KEEP.out _ beld | go_keep)
            ((first
              | (go_at_call 16; refine HC.out.mono ?_; rintro e W4 ⟨v4, rfl, hm4, hb4⟩; obtain ⟨A4, n4, c4, rfl, -, -, -, -⟩ := hm4.form2; have bel4 := beld.trans (hb4.mono beld.size); have HC5 := Lib.hid (fblock_any 5 (by omega) (by omega) (hm4.held (by omega)) (by omega)); have hown4 := OB.below hownd hb4 (Nat.le_refl _))
              | (go_at_call 13; refine HC5.out.mono ?_; rintro e W5 ⟨v5, rfl, hm5, hb5⟩; obtain ⟨A5, n5, c5, rfl, hn5, -, -, hr5⟩ := hm5.form2; have bel5 := bel4.trans (hb5.mono bel4.size); have hown5 := OB.below hown4 hb5 (Nat.le_refl _); have z5 := bel5.size)
              | (refine step_bytes rfl _ _ rfl hown5 rfl (Go.Proofs.YtlhpmlknmgocoaaGreat.wr [dF 5 ab]) rfl hn5.out hr5 (by simp only [List.length_append]; omega) z5 ?_; intro A6 n6 c6 W6 ho6 hg6; have bel6 := grown_below hown5 hg6 z5 (Nat.le_refl _) bel5)))
          all_goals
            go_wp2_with fail
            go_roundw
            case rel => exact ⟨k + 1, hlt, by go_num, by rw [HTK.out, ← List.append_assoc]; exact ho6, bel6⟩
            case measure => simp [intOf]; omega
        · have hke : k = inits.length := by omega
          subst hke
          rw [List.take_length] at hown
          obtain ⟨P3, hP3⟩ : ∃ P, P2 ++ Go.Proofs.YtlhpmlknmgocoaaGreat.wr (inits.map F3) = P := ⟨_, rfl⟩
          have hp3 : P3.length = P2.length + (Go.Proofs.YtlhpmlknmgocoaaGreat.wr (inits.map F3)).length := by rw [← hP3]; simp
          rw [hP3] at HGG hown
          have HOW3 := Lib.hid hown
          have HBL3 := Lib.hid bel1
          clear hP3 hown bel1 hwt z1
          go_wp2
          go_loopw [5, 8] (fun out i wq => NBrel (P3) F4 inputs W1 out i wq) (fun _ i _ => inputs.length - (intOf i).toNat)
          case atStart => exact ⟨0, Nat.zero_le _, rfl, by simpa [Go.Proofs.YtlhpmlknmgocoaaGreat.wr] using HOW3.out, HBL3.out⟩
          case round =>
            obtain ⟨k, hk, rfl, hown, bel1⟩ := hrel
            have z1 := bel1.size
            have hwt := wr_tk F4 inputs k
            clear p0 p1 p2 p3 p4 p5 lp
            obtain ⟨p0, p1, p2, p3, p4, p5, -, -, -, -, -, -, lp⟩ := blkc6 (HB1.out.below bel1 HB1.out.lt)
            by_cases hlt : k < inputs.length
            · obtain ⟨bx, off, D1, d1, rfl, hla, a0, a1, a2⟩ := (HIP.out.past bel1).val_at hlt
              have HTK := Lib.hid (wr_snoc F4 hlt)
              have hw1 := wr_one_le F4 hlt
              have hok := HP.out _ (List.getElem_mem hlt)
              have hal := valF_len hok
              generalize inputs[k] = a at *
              have HFA : Hid (F4 a = dF 11 (Go.Proofs.YtlhpmlknmgocoaaGreat.wr (valF a))) := Lib.hid (by rw [← HF4.out])
              rw [HFA.out] at HTK hw1
              have HC := Lib.hid (fvalueOf_any hla hok)
              generalize Go.Proofs.YtlhpmlknmgocoaaGreat.wr (valF a) = ab at *
              clear hla hok
              go_wp2_with fail
              refine Calls.mono (HC.out) ?_
              rintro e W4 ⟨v4, rfl, hm4, hb4⟩
              obtain ⟨A4, n4, c4, rfl, hn4, -, -, hr4⟩ := hm4.form2
              have bel4 := bel1.trans (hb4.mono bel1.size)
              have z4 := bel4.size
              have hown' := hown
              clear a0 a1 a2
              have ho4 := OB.below hown' hb4 (Nat.le_refl _)
              have HC5 := Lib.hid (fblock_any 11 (by omega) (by omega) (hm4.held (by omega)) (by omega))
              generalize Go.Proofs.YtlhpmlknmgocoaaGreat.wr [dF 11 ab] = m at *
              go_wp2_with fail
              refine Calls.mono (HC5.out) ?_
              rintro e W5 ⟨v5, rfl, hm5, hb5⟩
              obtain ⟨A5, n5, c5, rfl, hn5, -, -, hr5⟩ := hm5.form2
              have bel5 := bel4.trans (hb5.mono bel4.size)
              have z5 := bel5.size
              have ho5 := OB.below ho4 hb5 (Nat.le_refl _)
              clear p0 p1 p2 p3 p4 p5 lp
              go_wp2_with (at_builtin
                           go_must (refine append_bytes rfl _ _ rfl ho5 rfl (m) rfl hn5.out hr5 (by first | omega | (simp only [List.length_append, List.length_nil]; omega)) z5 ?_; intro v5' W5' ho5' hg5' ha5')
                           have bel5' := grown_below ho5 hg5' z5 (Nat.le_refl _) bel5
                           obtain ⟨A5', n5', c5', rfl, -, -, -, -⟩ := ho5'.form2)
              go_roundw
              case rel => exact ⟨k + 1, hlt, by go_num, by rw [HTK.out, ← List.append_assoc]; exact ho5', bel5'⟩
              case measure => simp [intOf]; omega
            · have hke : k = inputs.length := by omega
              subst hke
              rw [List.take_length] at hown
              obtain ⟨P4, hP4⟩ : ∃ P, P3 ++ Go.Proofs.YtlhpmlknmgocoaaGreat.wr (inputs.map F4) = P := ⟨_, rfl⟩
              have hp4 : P4.length = P3.length + (Go.Proofs.YtlhpmlknmgocoaaGreat.wr (inputs.map F4)).length := by rw [← hP4]; simp
              rw [hP4] at HGG hown
              have HOW4 := Lib.hid hown
              have HBL4 := Lib.hid bel1
              clear hP4 hown bel1 hwt z1
              go_wp2
              go_loopw [5, 9] (fun out i wq => NBrel (P4) F5 outputs W1 out i wq) (fun _ i _ => outputs.length - (intOf i).toNat)
              case atStart => exact ⟨0, Nat.zero_le _, rfl, by simpa [Go.Proofs.YtlhpmlknmgocoaaGreat.wr] using HOW4.out, HBL4.out⟩
              case round =>
                obtain ⟨k, hk, rfl, hown, bel1⟩ := hrel
                have z1 := bel1.size
                have hwt := wr_tk F5 outputs k
                clear p0 p1 p2 p3 p4 p5 lp
                obtain ⟨p0, p1, p2, p3, p4, p5, -, -, -, -, -, -, lp⟩ := blkc6 (HB1.out.below bel1 HB1.out.lt)
                by_cases hlt : k < outputs.length
                · obtain ⟨bx, off, D1, d1, rfl, hla, a0, a1, a2⟩ := (HOU.out.past bel1).val_at hlt
                  have HTK := Lib.hid (wr_snoc F5 hlt)
                  have hw1 := wr_one_le F5 hlt
                  have hok := HO.out _ (List.getElem_mem hlt)
                  have hal := valF_len hok
                  generalize outputs[k] = a at *
                  have HFA : Hid (F5 a = dF 12 (Go.Proofs.YtlhpmlknmgocoaaGreat.wr (valF a))) := Lib.hid (by rw [← HF5.out])
                  rw [HFA.out] at HTK hw1
                  have HC := Lib.hid (fvalueOf_any hla hok)
                  generalize Go.Proofs.YtlhpmlknmgocoaaGreat.wr (valF a) = ab at *
                  clear hla hok
                  go_wp2_with fail
                  refine Calls.mono (HC.out) ?_
                  rintro e W4 ⟨v4, rfl, hm4, hb4⟩
                  obtain ⟨A4, n4, c4, rfl, hn4, -, -, hr4⟩ := hm4.form2
                  have bel4 := bel1.trans (hb4.mono bel1.size)
                  have z4 := bel4.size
                  have hown' := hown
                  clear a0 a1 a2
                  have ho4 := OB.below hown' hb4 (Nat.le_refl _)
                  have HC5 := Lib.hid (fblock_any 12 (by omega) (by omega) (hm4.held (by omega)) (by omega))
                  generalize Go.Proofs.YtlhpmlknmgocoaaGreat.wr [dF 12 ab] = m at *
                  go_wp2_with fail
                  refine Calls.mono (HC5.out) ?_
                  rintro e W5 ⟨v5, rfl, hm5, hb5⟩
                  obtain ⟨A5, n5, c5, rfl, hn5, -, -, hr5⟩ := hm5.form2
                  have bel5 := bel4.trans (hb5.mono bel4.size)
                  have z5 := bel5.size
                  have ho5 := OB.below ho4 hb5 (Nat.le_refl _)
                  clear p0 p1 p2 p3 p4 p5 lp
                  go_wp2_with (at_builtin
                               go_must (refine append_bytes rfl _ _ rfl ho5 rfl (m) rfl hn5.out hr5 (by first | omega | (simp only [List.length_append, List.length_nil]; omega)) z5 ?_; intro v5' W5' ho5' hg5' ha5')
                               have bel5' := grown_below ho5 hg5' z5 (Nat.le_refl _) bel5
                               obtain ⟨A5', n5', c5', rfl, -, -, -, -⟩ := ho5'.form2)
                  go_roundw
                  case rel => exact ⟨k + 1, hlt, by go_num, by rw [HTK.out, ← List.append_assoc]; exact ho5', bel5'⟩
                  case measure => simp [intOf]; omega
                · have hke : k = outputs.length := by omega
                  subst hke
                  rw [List.take_length] at hown
                  rw [← HGG.out] at hown
                  have hGl : G.length ≤ 5000000000 := by
                    rw [HGG.out]; simp only [List.length_append]; omega
                  obtain ⟨htl1, htl2⟩ := topB_len G
                  have HTB : Hid (topB G = (Go.Proofs.YtlhpmlknmgocoaaGreat.wr [vF 1 8] ++ Go.Proofs.YtlhpmlknmgocoaaGreat.wr [dF 7 G]) ++ Go.Proofs.YtlhpmlknmgocoaaGreat.wr [dF 8 (Go.Proofs.YtlhpmlknmgocoaaGreat.wr [vF 2 17])]) := Lib.hid rfl
                  have hs1 : (Go.Proofs.YtlhpmlknmgocoaaGreat.wr [vF 1 8]).length ≤ 20 := by rw [wr_one]; exact wrF_v_len _ _
                  have hs2 : (Go.Proofs.YtlhpmlknmgocoaaGreat.wr [vF 2 17]).length ≤ 20 := by rw [wr_one]; exact wrF_v_len _ _
                  have hs7 : (Go.Proofs.YtlhpmlknmgocoaaGreat.wr [dF 7 G]).length ≤ 20 + G.length := by rw [wr_one]; exact wrF_d_len _ _
                  have hs8 : (Go.Proofs.YtlhpmlknmgocoaaGreat.wr [dF 8 (Go.Proofs.YtlhpmlknmgocoaaGreat.wr [vF 2 17])]).length ≤ 20 + (Go.Proofs.YtlhpmlknmgocoaaGreat.wr [vF 2 17]).length := by rw [wr_one]; exact wrF_d_len _ _
                  have HCa := Lib.hid (fnumber_at (w := wr) 1 (by omega) (by omega) 8 (t := 8) rfl (by omega))
                  have HCc := fun w => Lib.hid (fnumber_at (w := w) 2 (by omega) (by omega) 17 (t := 17) rfl (by omega))
                  generalize Go.Proofs.YtlhpmlknmgocoaaGreat.wr [vF 1 8] = s1 at *
                  generalize Go.Proofs.YtlhpmlknmgocoaaGreat.wr [vF 2 17] = s2 at *
                  generalize topB G = T at *
                  obtain ⟨A9, n9, c9, rfl, -, -, -, -⟩ := hown.form2
                  clear hwt q1 q3 q4 q5
                  go_wp2_with fail
                  refine Calls.mono (HCa.out) ?_
                  rintro e W2 ⟨v2, rfl, hm2, hb2⟩
                  obtain ⟨A2, n2, c2, rfl, hn2, -, -, hr2⟩ := hm2.form2
                  have bel2 := bel1.trans (hb2.mono bel1.size)
                  have z2 := bel2.size
                  clear p0 p1 p2 p3 p4 p5 lp
                  have hown2 := OB.below hown hb2 (Nat.le_refl _)
                  have HCb := Lib.hid (fblock_any 7 (by omega) (by omega) (hown2.held (by omega)) (by omega))
                  generalize Go.Proofs.YtlhpmlknmgocoaaGreat.wr [dF 7 G] = s7 at *
                  go_wp2_with fail
                  refine Calls.mono (HCb.out) ?_
                  rintro e W3 ⟨v3, rfl, hm3, hb3⟩
                  obtain ⟨A3, n3, c3, rfl, hn3, -, -, hr3⟩ := hm3.form2
                  have bel3 := bel2.trans (hb3.mono bel2.size)
                  have z3 := bel3.size
                  have ho3 := OB.below (OB.lower hm2 z1) hb3 (Nat.le_refl _)
                  go_upto_region 24 with (at_builtin
                                          go_must (refine append_bytes rfl _ _ rfl ho3 rfl (s7) rfl hn3.out hr3 (by first | omega | (simp only [List.length_append, List.length_nil]; omega)) z3 ?_; intro v3' W3' ho3' hg3' ha3')
                                          have bel3' := grown_below ho3 hg3' z3 (Nat.le_refl _) bel3
                                          obtain ⟨A3', n3', c3', rfl, -, -, -, -⟩ := ho3'.form2)
                  go_wp2_with fail
                  refine Calls.mono ((HCc _).out) ?_
                  rintro e W4 ⟨v4, rfl, hm4, hb4⟩
                  obtain ⟨A4, n4, c4, rfl, hn4, -, -, hr4⟩ := hm4.form2
                  have bel4 := bel3'.trans (hb4.mono bel3'.size)
                  have z4 := bel4.size
                  have ho4 := OB.below ho3' hb4 (Nat.le_refl _)
                  have HCd := Lib.hid (fblock_any 8 (by omega) (by omega) (hm4.held (by omega)) (by omega))
                  generalize Go.Proofs.YtlhpmlknmgocoaaGreat.wr [dF 8 s2] = s8 at *
                  go_wp2_with fail
                  refine Calls.mono (HCd.out) ?_
                  rintro e W5 ⟨v5, rfl, hm5, hb5⟩
                  obtain ⟨A5, n5, c5, rfl, hn5, -, -, hr5⟩ := hm5.form2
                  have bel5 := bel4.trans (hb5.mono bel4.size)
                  have z5 := bel5.size
                  have ho5 := OB.below ho4 hb5 (Nat.le_refl _)
                  go_upto_region 25 with (at_builtin
                                          go_must (refine append_bytes rfl _ _ rfl ho5 rfl (s8) rfl hn5.out hr5 (by first | omega | (simp only [List.length_append, List.length_nil]; omega)) z5 ?_; intro v5' W5' ho5' hg5' ha5')
                                          have bel5' := grown_below ho5 hg5' z5 (Nat.le_refl _) bel5
                                          rw [← HTB.out] at ho5'
                                          obtain ⟨A5', n5', c5', rfl, hn5', -, -, -⟩ := ho5'.form2)
                  have HD5 := Lib.hid (ho5'.held (by omega))
                  have HBF := Lib.hid (HBW.out.trans (bel5'.mono HBW.out.size))
                  have hzw := HBW.out.size
                  by_cases hlim : 4194304 < T.length
                  · have hgt : (n5' : Int) > 4194304 := by rw [hn5'.out]; omega
                    have HR : Hid (em = ([], 8)) := Lib.hid (by rw [HMM.out, if_pos hlim])
                    clear hn5' hlim
                    go_wp2
                    go_ret2
                    exact EncR.mk HR.out (Held.nil _ _ _ _ _ (by unfold maxLen; omega)) HBF.out
                  · have hgt : ¬ (n5' : Int) > 4194304 := by rw [hn5'.out]; omega
                    have HR : Hid (em = (T, 0)) := Lib.hid (by rw [HMM.out, if_neg hlim])
                    clear hn5' hlim
                    go_wp2
                    go_ret2
                    exact EncR.mk HR.out (HD5.out.mono fun x hx => ⟨Nat.le_trans hzw hx.1, hx.2⟩) HBF.out
end
end Go.Proofs.YtlhpmlknmgocoaaGreat
