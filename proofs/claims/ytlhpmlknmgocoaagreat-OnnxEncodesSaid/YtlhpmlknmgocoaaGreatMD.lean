import Derived.Test.YtlhpmlknmgocoaaGreatOnDd
/- nodeOf. -/
namespace Go.Proofs.YtlhpmlknmgocoaaGreat
set_option linter.unusedSimpArgs false
set_option linter.unusedVariables false
open Go.RowKit

/-- behind k rounds of a loop that adds a field a round -/
def ORel {α : Type} (w : World) (g p lo : Nat) (T : TypeId) (cs : Array Value) (pre : List Fld) (f : α → Fld) (l : List α) (i : Value) (wr : World) : Prop :=
  ∃ (k : Nat) (v : Value), k ≤ l.length ∧ i = .int .i64 (k : Int) ∧ OS w wr g lo v (pre ++ (l.take k).map f) ∧ Blk wr p T cs
theorem ORel.start {α : Type} {w wr : World} {g p lo : Nat} {T : TypeId} {cs : Array Value} {pre : List Fld} {f : α → Fld} {l : List α} {v : Value} (h : OS w wr g lo v pre) (hb : Blk wr p T cs) : ORel w g p lo T cs pre f l (.int .i64 0) wr :=
  ⟨0, v, Nat.zero_le _, rfl, by simpa using h, hb⟩
theorem map_snoc {α : Type} (f : α → Fld) {l : List α} {k : Nat} (h : k < l.length) : (l.take (k + 1)).map f = (l.take k).map f ++ [f l[k]] := by
  rw [List.take_succ_eq_append_getElem h, List.map_append]; rfl
theorem take_len {α : Type} {l : List α} {k : Nat} (h : k ≤ l.length) : (l.take k).length = k := by rw [List.length_take]; omega
section
variable {w : World} {S : Nat → Prop} {us : List Value}
set_option maxRecDepth 100000 in
set_option maxHeartbeats 3200000 in
theorem nodeOf_any {n : Nod} (hl : HL w S (datN n) us) (ha : NdOk n) :
    Calls Tryz.prog 24 #[.agg us.toArray] w (MadeD w (encW (nodF n))) := by
  have hlen := nodF_len ha
  have HWF := Lib.hid (wf_of (nodF_ok n) (by omega))
  have HAT := Lib.hid ha.att
  have h2 := ha.many
  simp only [manyN, Bool.or_eq_false_iff, decide_eq_false_iff_not] at h2
  obtain ⟨⟨⟨⟨⟨⟨⟨ho, hn⟩, hi⟩, hu⟩, li⟩, lo⟩, la⟩, -⟩ := h2
  simp only [longP, decide_eq_false_iff_not] at ho hn
  have HLI := Lib.hid (long_all hi)
  have HLU := Lib.hid (long_all hu)
  obtain ⟨A1, c1, A2, c2, A3, c3, rfl, hin, hou, hat, b1, b2, b3⟩ := hl.nod
  obtain ⟨op, nm, ins, outs, attrs⟩ := n
  dsimp only at *
  clear hl ha hlen hi hu b1 b2 b3
  have HF : Hid (nodF ⟨op, nm, ins, outs, attrs⟩ = ((((ins.map (dF 1)) ++ outs.map (dF 2)) ++ nameF 3 nm) ++ [dF 4 op]) ++ attrs.map fun a => dF 5 (encW (attF a))) := Lib.hid rfl
  have hn1 := nameF_len1 3 nm
  obtain ⟨cs, hcs⟩ : ∃ cs : Array Value, #[.string ⟨op.toArray⟩, .string ⟨nm.toArray⟩, .slice A1 ins.length c1, .slice A2 outs.length c2, .slice A3 attrs.length c3] = cs := ⟨_, rfl⟩
  obtain ⟨W0, hW0⟩ : ∃ W0, (w.alloc (.cells cs 48)).alloc (.cells #[.slice none 0 0] 71) = W0 := ⟨_, rfl⟩
  have hs0 : OS w W0 (w.heap.size + 1) (w.heap.size + 2) (.slice none 0 0) [] := by
    subst hW0
    exact OS.new (Blk.new' _ _ _ (by simp)) (((Below.refl _ _).alloc (Nat.le_refl _) _).alloc (by simp) _) (by omega) (by omega) (by simp)
  have hb0 : Blk W0 w.heap.size 48 cs := by subst hW0; exact (Blk.new _ _ _).alloc _
  have HB0 := Lib.hid hb0
  have HS0 := Lib.hid hs0
  have HCS := Lib.hid hcs
  have HW0 := Lib.hid hW0
  clear hb0 hs0 hcs hW0
  go_enter Tryz.func24, Tryz.ntmps24
  go_wp2
  go_loopw [15] (fun i wr => ORel w (w.heap.size + 1) w.heap.size (w.heap.size + 2) 48 cs [] (dF 1) ins i wr) (fun i _ => ins.length - (intOf i).toNat)
  case atStart =>
    have := ORel.start (f := dF 1) (l := ins) HS0.out HB0.out
    rw [← HW0.out, ← HCS.out] at this
    exact HCS.out ▸ this
  case round =>
    obtain ⟨k, v, hk, rfl, hs, hb⟩ := hrel
    have HS := Lib.hid hs
    have HB := Lib.hid hb
    clear hs hb
    by_cases hlt : k < ins.length
    · obtain ⟨bx, off, rfl, -, hc0⟩ := (hin.past HS.out.bel).str_at hlt
      have HT := Lib.hid (map_snoc (dF 1) hlt)
      have hsl := HLI.out ins[k] (List.getElem_mem hlt)
      generalize ins[k] = s at *
      have hcv : ∀ w : World, (convert 9 28 (.string ⟨s.toArray⟩)).run Tryz.prog w = .ok (.slice (some ⟨w.heap.size, 0, none⟩) s.length (grownCap w s.length 0 5)) (Lib.bytesWorld w 5 ⟨s.toArray⟩) := fun w =>
        Lib.run_convert_string_bytes w _ _ _ _ Tryz.underlying9 Tryz.underlying28 Tryz.underlying5
      have HBW := Lib.hid (below_bytes wr 5 ⟨s.toArray⟩)
      go_wp2_with fail
      refine Calls.mono (obytes_any 1 (HS.out.past HBW.out) (HS.out.fresh HBW.out (held_bytes wr s (by omega))) (by simp only [List.length_append, List.length_map, List.length_nil, take_len hk]; omega)) ?_
      rintro e W2 ⟨v2, rfl, hs2, hf2, -⟩
      have HS2 := Lib.hid hs2
      have HB2 := Lib.hid ((HS.out.past HBW.out).keep hf2 (HB.out.below HBW.out HB.out.lt) (by omega) (by omega))
      clear hs2 hf2
      go_wp2
      go_roundw
      case rel => exact ⟨k + 1, v2, hlt, by go_num, by rw [HT.out, ← List.append_assoc]; exact HS2.out, HB2.out⟩
      case measure => simp [intOf]; omega
    · have hke : k = ins.length := by omega
      subst hke
      rw [List.take_length] at HS
      rw [List.nil_append] at HS
      have hb' := HB.out
      rw [← HCS.out] at hb'
      obtain ⟨p0, p1, p2, p3, p4, -, -, -, -, -, lp⟩ := blkc5 hb'
      obtain ⟨Wa, hWa⟩ : ∃ W, W = wr := ⟨_, rfl⟩
      subst hWa
      have HSa := HS
      have HBa := HB
      clear hb' HS HB
      go_wp2
      go_loopw [27] (fun i wr => ORel w (w.heap.size + 1) w.heap.size (w.heap.size + 2) 48 cs (ins.map (dF 1)) (dF 2) outs i wr) (fun i _ => outs.length - (intOf i).toNat)
      case atStart => exact ORel.start HSa.out HBa.out
      case round =>
        obtain ⟨k, v, hk, rfl, hs, hb⟩ := hrel
        have HS := Lib.hid hs
        have HB := Lib.hid hb
        clear hs hb p0 p1 p2 p3 p4 lp
        by_cases hlt : k < outs.length
        · obtain ⟨bx, off, rfl, -, hc0⟩ := (hou.past HS.out.bel).str_at hlt
          have HT := Lib.hid (map_snoc (dF 2) hlt)
          have hsl := HLU.out outs[k] (List.getElem_mem hlt)
          generalize outs[k] = s at *
          have hcv : ∀ w : World, (convert 9 28 (.string ⟨s.toArray⟩)).run Tryz.prog w = .ok (.slice (some ⟨w.heap.size, 0, none⟩) s.length (grownCap w s.length 0 5)) (Lib.bytesWorld w 5 ⟨s.toArray⟩) := fun w =>
            Lib.run_convert_string_bytes w _ _ _ _ Tryz.underlying9 Tryz.underlying28 Tryz.underlying5
          have HBW := Lib.hid (below_bytes wr 5 ⟨s.toArray⟩)
          go_wp2_with fail
          refine Calls.mono (obytes_any 2 (HS.out.past HBW.out) (HS.out.fresh HBW.out (held_bytes wr s (by omega))) (by simp only [List.length_append, List.length_map, List.length_nil, take_len hk]; omega)) ?_
          rintro e W2 ⟨v2, rfl, hs2, hf2, -⟩
          have HS2 := Lib.hid hs2
          have HB2 := Lib.hid ((HS.out.past HBW.out).keep hf2 (HB.out.below HBW.out HB.out.lt) (by omega) (by omega))
          clear hs2 hf2
          go_wp2
          go_roundw
          case rel => exact ⟨k + 1, v2, hlt, by go_num, by rw [HT.out, ← List.append_assoc]; exact HS2.out, HB2.out⟩
          case measure => simp [intOf]; omega
        · have hke : k = outs.length := by omega
          subst hke
          rw [List.take_length] at HS
          have hb' := HB.out
          rw [← HCS.out] at hb'
          obtain ⟨p0, p1, p2, p3, p4, -, -, -, -, -, lp⟩ := blkc5 hb'
          obtain ⟨Wb, hWb⟩ : ∃ W, W = wr := ⟨_, rfl⟩
          subst hWb
          have HSb := HS
          have HBb := HB
          clear hb' HS HB
          go_wp2_with fail
          refine Calls.mono (oname_any 3 HSb.out (by omega) (by simp only [List.length_append, List.length_map]; omega)) ?_
          rintro e W3 ⟨v3, rfl, hs3, hf3, -⟩
          have HS3 := Lib.hid hs3
          have HB3 := Lib.hid (HSb.out.keep hf3 HBb.out (by omega) (by omega))
          clear hs3 hf3 p0 p1 p2 p3 p4 lp
          have hb' := HB3.out
          rw [← HCS.out] at hb'
          obtain ⟨p0, p1, p2, p3, p4, -, -, -, -, -, lp⟩ := blkc5 hb'
          clear hb'
          have hcv : ∀ w : World, (convert 9 28 (.string ⟨op.toArray⟩)).run Tryz.prog w = .ok (.slice (some ⟨w.heap.size, 0, none⟩) op.length (grownCap w op.length 0 5)) (Lib.bytesWorld w 5 ⟨op.toArray⟩) := fun w =>
            Lib.run_convert_string_bytes w _ _ _ _ Tryz.underlying9 Tryz.underlying28 Tryz.underlying5
          have HBW := Lib.hid (below_bytes W3 5 ⟨op.toArray⟩)
          go_wp2_with fail
          refine Calls.mono (obytes_any 4 (HS3.out.past HBW.out) (HS3.out.fresh HBW.out (held_bytes W3 op (by omega))) (by simp only [List.length_append, List.length_map]; omega)) ?_
          rintro e W4 ⟨v4, rfl, hs4, hf4, -⟩
          have HS4 := Lib.hid hs4
          have HB4 := Lib.hid ((HS3.out.past HBW.out).keep hf4 (HB3.out.below HBW.out HB3.out.lt) (by omega) (by omega))
          clear hs4 hf4 p0 p1 p2 p3 p4 lp hcv
          have hb' := HB4.out
          rw [← HCS.out] at hb'
          obtain ⟨p0, p1, p2, p3, p4, -, -, -, -, -, lp⟩ := blkc5 hb'
          clear hb'
          go_wp2
          go_loopw [48] (fun i wr => ORel w (w.heap.size + 1) w.heap.size (w.heap.size + 2) 48 cs ((((ins.map (dF 1)) ++ outs.map (dF 2)) ++ nameF 3 nm) ++ [dF 4 op]) (fun a => dF 5 (encW (attF a))) attrs i wr) (fun i _ => attrs.length - (intOf i).toNat)
          case atStart => exact ORel.start HS4.out HB4.out
          case round =>
            obtain ⟨k, v, hk, rfl, hs, hb⟩ := hrel
            have HS := Lib.hid hs
            have HB := Lib.hid hb
            clear hs hb p0 p1 p2 p3 p4 lp
            by_cases hlt : k < attrs.length
            · obtain ⟨bx, off, D1, d1, D2, d2, D3, d3, D4, d4, D5, d5, D6, d6, rfl, hla, a0, a1, a2, a3, a4, a5, a6, a7, a8, a9, a10, a11⟩ := (hat.past HS.out.bel).att_at hlt
              have HT := Lib.hid (map_snoc (fun a => dF 5 (encW (attF a))) hlt)
              have HOK := Lib.hid (HAT.out attrs[k] (List.getElem_mem hlt))
              generalize attrs[k] = a at *
              have HLA := fun cs => Lib.hid (attrOf_any (hla.keep (fun h => h.alloc (.cells cs 98))) HOK.out)
              have HBA := fun (cs : Array Value) => Lib.hid ((Below.refl wr.heap.size wr).alloc (Nat.le_refl _) (.cells cs 98))
              clear hla
              go_wp2_with fail
              refine Calls.mono (HLA _).out ?_
              rintro e W2 hmd
              obtain ⟨A9, c9, rfl, hd2, hb2⟩ := hmd.form
              have HD2 := Lib.hid hd2
              have HB2 := Lib.hid ((HBA _).out.trans (hb2.mono (by simp)))
              clear hmd hd2 hb2 HLA
              go_wp2_with fail
              refine Calls.mono (obytes_any 5 (HS.out.past HB2.out) (HS.out.fresh HB2.out (HD2.out.mono (fun x hx => ⟨by have := hx.1; simp at this; omega, hx.2⟩))) (by simp only [List.length_append, List.length_map, take_len hk, List.length_cons, List.length_nil]; omega)) ?_
              rintro e W3 ⟨v3, rfl, hs3, hf3, -⟩
              have HS3' := Lib.hid hs3
              have HB3' := Lib.hid ((HS.out.past HB2.out).keep hf3 (HB.out.below HB2.out HB.out.lt) (by omega) (by omega))
              clear hs3 hf3
              go_wp2
              go_roundw
              case rel => exact ⟨k + 1, v3, hlt, by go_num, by rw [HT.out, ← List.append_assoc]; exact HS3'.out, HB3'.out⟩
              case measure => simp [intOf]; omega
            · have hke : k = attrs.length := by omega
              subst hke
              rw [List.take_length, ← HF.out] at HS
              have HL5 : Hid ((nodF ⟨op, nm, ins, outs, attrs⟩).length ≤ 2900000000000) := Lib.hid (by rw [HF.out]; simp only [List.length_append, List.length_map, List.length_cons, List.length_nil]; omega)
              go_wp2_with fail
              refine Calls.mono (odone_any HS.out HWF.out HL5.out) ?_
              rintro e W6 hmd
              obtain ⟨A9, c9, rfl, hd6, hb6⟩ := hmd.form
              have HM := Lib.hid hmd
              clear hmd hd6 hb6
              go_wp2
              go_ret
              exact MadeD.out HS.out.bel HM.out rfl
end
end Go.Proofs.YtlhpmlknmgocoaaGreat

/- valueOf. -/
namespace Go.Proofs.YtlhpmlknmgocoaaGreat
set_option linter.unusedSimpArgs false
set_option linter.unusedVariables false
open Go.RowKit

theorem Fr.gb {W W' : World} {g : Nat} {v : Value} (h : Fr W W' g v) (hv : v.ownBlock = none) : W.grownBy W' (some g) :=
  ⟨h.os, h.tape, h.output, h.size, fun k hk hr => h.block k hk (fun e => hr (by rw [e])) (by rw [hv]; simp)⟩
/-- another message's step that has no row as yet -/
theorem OS.frame {w W W' : World} {g lo g' : Nat} {v v' : Value} {fs : List Fld} (h : OS w W g lo v fs) (hf : Fr W W' g' v') (hv : v'.ownBlock = none) (hg : g' ≠ g) (hl : g' < lo) (hw : w.heap.size ≤ g') : OS w W' g lo v fs := by
  have hgb := hf.gb hv
  refine ⟨h.b.grown hgb (fun e => by injection e with e; exact hg e.symm), h.r.grown hgb (fun k e => by injection e with e; omega), h.bel.grown hgb h.bel.size (fun k e => by injection e with e; omega), h.gw, h.gl, Nat.le_trans h.lw hf.size⟩
theorem OS.far {w W W' : World} {g lo g' x : Nat} {v v' : Value} {fs : List Fld} {t : TypeId} {cs : Array Value} (hb : Blk W x t cs) (hf : Fr W W' g' v') (hv : v'.ownBlock = none) (hg : x ≠ g') : Blk W' x t cs :=
  hf.blk hb hg (by rw [hv]; simp)
def VOrel (w : World) (cs : Array Value) (l : List Int64) (i : Value) (wr : World) : Prop :=
  ∃ (k : Nat) (v : Value), k ≤ l.length ∧ i = .int .i64 (k : Int) ∧ OS w wr (w.heap.size + 1) (w.heap.size + 5) v (shpF (l.take k)) ∧ Blk wr w.heap.size 37 cs ∧
    Blk wr (w.heap.size + 2) 71 #[.slice none 0 0] ∧ Blk wr (w.heap.size + 3) 71 #[.slice none 0 0] ∧ Blk wr (w.heap.size + 4) 71 #[.slice none 0 0]
section
variable {w : World} {S : Nat → Prop} {us : List Value}
set_option maxRecDepth 100000 in
set_option maxHeartbeats 3200000 in
theorem valueOf_any {x : Va} (hl : HL w S (datV x) us) (hx : VaOk x) :
    Calls Tryz.prog 27 #[.agg us.toArray] w (MadeD w (encW (valF x))) := by
  have h8 := cnt_len hx.err
  have hlen := valF_len hx
  have hnm := hx.name
  have HWF := Lib.hid (wf_of (valF_ok x) (by omega))
  have HW1 := Lib.hid (wf_of (shpF_ok x.dims) (by have := shpF_len h8; omega))
  have HEV := Lib.hid (valF_eq h8)
  have HES := Lib.hid (encW_wr (shpF_ok x.dims) (by have := shpF_len h8; omega))
  have HW2 := Lib.hid (wf_of (tyF_ok x) (by have := tyF_len h8; omega))
  have HET := Lib.hid (encW_wr (tyF_ok x) (by have := tyF_len h8; omega))
  have HW3 := Lib.hid (wf_of (WrA.d (num := 1) (by decide) (by decide) (wr (tyF x))) (by have := (valF_eq h8).2; omega))
  have HE3 := Lib.hid (encW_wr (WrA.d (num := 1) (by decide) (by decide) (wr (tyF x))) (by have := (valF_eq h8).2; omega))
  obtain ⟨A1, c1, rfl, hdm, b1⟩ := hl.val
  obtain ⟨nm, ty, dims⟩ := x
  dsimp only at *
  clear hl hx hlen
  have HTY : Hid (tyF ⟨nm, ty, dims⟩ = [vF 1 (u64 ty), dF 2 (wr (shpF dims))]) := Lib.hid rfl
  have hn1 := nameF_len1 1 nm
  obtain ⟨cs, hcs⟩ : ∃ cs : Array Value, #[.string ⟨nm.toArray⟩, .int .i64 ty.toInt, .slice A1 dims.length c1] = cs := ⟨_, rfl⟩
  obtain ⟨W0, hW0⟩ : ∃ W0, ((((w.alloc (.cells cs 37)).alloc (.cells #[.slice none 0 0] 71)).alloc (.cells #[.slice none 0 0] 71)).alloc (.cells #[.slice none 0 0] 71)).alloc (.cells #[.slice none 0 0] 71) = W0 := ⟨_, rfl⟩
  have hst : VOrel w cs dims (.int .i64 0) W0 := by
    subst hW0
    refine ⟨0, .slice none 0 0, Nat.zero_le _, rfl, ?_, ?_, ?_, ?_, ?_⟩
    · exact OS.new (((((Blk.new' _ _ _ (by simp))).alloc _).alloc _).alloc _) (((((((Below.refl _ _).alloc (Nat.le_refl _) _).alloc (by simp) _).alloc (by simp; omega) _)).alloc (by simp; omega) _).alloc (by simp; omega) _) (by omega) (by omega) (by simp)
    · exact ((((Blk.new _ _ _).alloc _).alloc _).alloc _).alloc _
    · exact ((Blk.new' _ _ _ (by simp)).alloc _).alloc _
    · exact (Blk.new' _ _ _ (by simp)).alloc _
    · exact Blk.new' _ _ _ (by simp)
  have HST := Lib.hid hst
  have HCS := Lib.hid hcs
  have HW0 := Lib.hid hW0
  clear hst hcs hW0
  go_enter Tryz.func27, Tryz.ntmps27
  go_wp2
  go_loopw [21] (fun i wr => VOrel w cs dims i wr) (fun i _ => dims.length - (intOf i).toNat)
  case atStart =>
    have := HST.out
    rw [← HW0.out, ← HCS.out] at this
    exact HCS.out ▸ this
  case round =>
    obtain ⟨k, v, hk, rfl, hs, hb, ht, hr, ho⟩ := hrel
    have HS := Lib.hid hs
    have HB := Lib.hid hb
    have HT := Lib.hid ht
    have HR := Lib.hid hr
    have HO := Lib.hid ho
    clear hs hb ht hr ho
    by_cases hlt : k < dims.length
    · obtain ⟨bx, off, rfl, -, hc0⟩ := (hdm.past HS.out.bel).int_at hlt
      have HSN : Hid (shpF (dims.take (k + 1)) = shpF (dims.take k) ++ [dF 1 (encW [vF 1 (u64 dims[k])])]) := Lib.hid (by unfold shpF; exact map_snoc _ hlt)
      have HNO := Lib.hid (onumber_any 1 dims[k] (OS.new (w := wr) (g := wr.heap.size) (lo := wr.heap.size + 1) (Blk.new _ _ _) ((Below.refl _ _).alloc (Nat.le_refl _) _) (Nat.le_refl _) (by omega) (by simp)) (by simp))
      generalize dims[k] = d at *
      go_wp2_with fail
      refine Calls.mono HNO.out ?_
      rintro e W2 ⟨v2, rfl, hs2, -, -⟩
      have HS2 := Lib.hid hs2
      clear hs2 HNO
      go_wp2_with fail
      refine Calls.mono (odone_any HS2.out (wf_of (dimF_ok d) (by have := dimF_len d; simp only [List.nil_append]; omega)) (by simp)) ?_
      rintro e W3 hmd
      obtain ⟨A9, c9, rfl, hd3, hb3⟩ := hmd.form
      have HB3 : Hid (Below wr.heap.size wr W3) := Lib.hid (HS2.out.bel.trans (hb3.mono HS2.out.bel.size))
      have HD3 := Lib.hid (hd3.mono (S' := Inb wr.heap.size W3.heap.size) (fun q hq => ⟨Nat.le_trans HS2.out.bel.size hq.1, hq.2⟩))
      clear hmd hd3 hb3 HS2
      go_wp2_with fail
      refine Calls.mono (obytes_any 1 (HS.out.past HB3.out) (HS.out.fresh HB3.out HD3.out) (by simp only [shpF, List.length_map, take_len hk]; omega)) ?_
      rintro e W4 ⟨v4, rfl, hs4, hf4, -⟩
      have HSP := Lib.hid (HS.out.past HB3.out)
      have HS4 := Lib.hid hs4
      have HF4 := Lib.hid hf4
      clear hs4 hf4
      go_wp2
      go_roundw
      case rel => exact ⟨k + 1, v4, hlt, by go_num, by rw [HSN.out]; exact HS4.out, HSP.out.keep HF4.out (HB.out.below HB3.out HB.out.lt) (by omega) (by omega), HSP.out.keep HF4.out (HT.out.below HB3.out HT.out.lt) (by omega) (by omega),
        HSP.out.keep HF4.out (HR.out.below HB3.out HR.out.lt) (by omega) (by omega), HSP.out.keep HF4.out (HO.out.below HB3.out HO.out.lt) (by omega) (by omega)⟩
      case measure => simp [intOf]; omega
    · have hke : k = dims.length := by omega
      subst hke
      rw [List.take_length] at HS
      have hb' := HB.out
      rw [← HCS.out] at hb'
      obtain ⟨p0, p1, p2, -, -, -, lp⟩ := blkc3 hb'
      obtain ⟨Wa, hWa⟩ : ∃ W, W = wr := ⟨_, rfl⟩
      subst hWa
      have hza := HS.out.lw
      have HST2 : Hid (OS w Wa (w.heap.size + 2) Wa.heap.size (.slice none 0 0) []) := Lib.hid (OS.new HT.out HS.out.bel (by omega) (by omega) (Nat.le_refl _))
      clear hb'
      go_wp2_with fail
      refine Calls.mono (onumber_any 1 ty HST2.out (by simp)) ?_
      rintro e W1 ⟨v1, rfl, hs1, hf1, -⟩
      rw [List.nil_append] at hs1
      have HT1 := Lib.hid hs1
      have HS1 := Lib.hid (HS.out.frame hf1 rfl (by omega) (by omega) (by omega))
      have HB1 := Lib.hid (hf1.blk HB.out (by omega) (by simp [Value.ownBlock]))
      have HR1 := Lib.hid (hf1.blk HR.out (by omega) (by simp [Value.ownBlock]))
      have HO1 := Lib.hid (hf1.blk HO.out (by omega) (by simp [Value.ownBlock]))
      clear hs1 hf1 p0 p1 p2 lp HST2
      go_wp2_with fail
      refine Calls.mono (odone_any HS1.out HW1.out (by simp only [shpF, List.length_map]; omega)) ?_
      rintro e W2 hmd
      obtain ⟨A9, c9, rfl, hd2, hb2⟩ := hmd.form
      have HBW2 := Lib.hid hb2
      have HD2 := Lib.hid hd2
      have hzz := hb2.size
      clear hmd hd2 hb2
      have HT2 := Lib.hid (HT1.out.past HBW2.out)
      have HB2 := Lib.hid (HB1.out.below HBW2.out HB1.out.lt)
      have HR2 := Lib.hid (HR1.out.below HBW2.out HR1.out.lt)
      have HO2 := Lib.hid (HO1.out.below HBW2.out HO1.out.lt)
      go_wp2_with fail
      refine Calls.mono (obytes_any 2 HT2.out (HT1.out.fresh HBW2.out HD2.out) (by simp)) ?_
      rintro e W3 ⟨v3, rfl, hs3, hf3, -⟩
      have he3 : [vF 1 (u64 ty)] ++ [dF 2 (encW (shpF dims))] = tyF ⟨nm, ty, dims⟩ := by rw [HTY.out, HES.out]; rfl
      rw [he3] at hs3
      have HT3 := Lib.hid hs3
      have hz3 := HT2.out.lw
      have HB3 := Lib.hid (HT2.out.keep hf3 HB2.out (by omega) (by omega))
      have HR3 := Lib.hid (HT2.out.keep hf3 HR2.out (by omega) (by omega))
      have HO3 := Lib.hid (HT2.out.keep hf3 HO2.out (by omega) (by omega))
      have hz33 := hf3.size
      have HSR3 : Hid (OS w W3 (w.heap.size + 3) W3.heap.size (.slice none 0 0) []) := Lib.hid (OS.new HR3.out hs3.bel (by omega) (by omega) (Nat.le_refl _))
      clear hs3 hf3 he3 HS1 HB1 HR1 HO1 HT2 HB2 HR2 HO2 HD2 HT1 HBW2
      go_wp2_with fail
      refine Calls.mono (odone_any HT3.out HW2.out (by rw [HTY.out]; simp)) ?_
      rintro e W4 hmd
      obtain ⟨A8, c8, rfl, hd4, hb4⟩ := hmd.form
      have HBW4 := Lib.hid hb4
      have HD4 := Lib.hid hd4
      have hz44 := hb4.size
      clear hmd hd4 hb4
      have HSR4 := Lib.hid (HSR3.out.past HBW4.out)
      have HB4 := Lib.hid (HB3.out.below HBW4.out HB3.out.lt)
      have HO4 := Lib.hid (HO3.out.below HBW4.out HO3.out.lt)
      go_wp2_with fail
      refine Calls.mono (obytes_any 1 HSR4.out (HSR3.out.fresh HBW4.out HD4.out) (by simp)) ?_
      rintro e W5 ⟨v5, rfl, hs5, hf5, -⟩
      have he5 : [] ++ [dF 1 (encW (tyF ⟨nm, ty, dims⟩))] = [dF 1 (wr (tyF ⟨nm, ty, dims⟩))] := by rw [HET.out]; rfl
      rw [he5] at hs5
      have HSR5 := Lib.hid hs5
      have HB5 := Lib.hid (HSR4.out.keep hf5 HB4.out (by omega) (by omega))
      have HO5 := Lib.hid (HSR4.out.keep hf5 HO4.out (by omega) (by omega))
      have hz55 := hf5.size
      have HSO5 : Hid (OS w W5 (w.heap.size + 4) W5.heap.size (.slice none 0 0) []) := Lib.hid (OS.new HO5.out hs5.bel (by omega) (by omega) (Nat.le_refl _))
      have hb' := HB5.out
      rw [← HCS.out] at hb'
      obtain ⟨p0, p1, p2, -, -, -, lp⟩ := blkc3 hb'
      clear hb' hs5 hf5 he5 HT3 HB3 HR3 HO3 HSR4 HB4 HO4 HD4 HSR3 HBW4
      go_wp2_with fail
      refine Calls.mono (oname_any 1 HSO5.out (by omega) (by simp)) ?_
      rintro e W6 ⟨v6, rfl, hs6, hf6, -⟩
      rw [List.nil_append] at hs6
      have HSO6 := Lib.hid hs6
      have HSR6 := Lib.hid (HSR5.out.frame hf6 rfl (by omega) (by omega) (by omega))
      clear hs6 hf6 p0 p1 p2 lp HSO5 HSR5
      go_wp2_with fail
      refine Calls.mono (odone_any HSR6.out HW3.out (by simp)) ?_
      rintro e W7 hmd
      obtain ⟨A7, c7, rfl, hd7, hb7⟩ := hmd.form
      have HBW7 := Lib.hid hb7
      have HD7 := Lib.hid hd7
      clear hmd hd7 hb7
      go_wp2_with fail
      refine Calls.mono (obytes_any 2 (HSO6.out.past HBW7.out) (HSO6.out.fresh HBW7.out HD7.out) (by omega)) ?_
      rintro e W8 ⟨v8, rfl, hs8, hf8, -⟩
      have he8 : nameF 1 nm ++ [dF 2 (encW [dF 1 (wr (tyF ⟨nm, ty, dims⟩))])] = valF ⟨nm, ty, dims⟩ := by rw [HEV.out.1, HE3.out]
      rw [he8] at hs8
      have HSO8 := Lib.hid hs8
      have HL5 : Hid ((valF ⟨nm, ty, dims⟩).length ≤ 2900000000000) := Lib.hid (by rw [HEV.out.1, List.length_append]; simp only [List.length_cons, List.length_nil]; omega)
      clear hs8 hf8 he8
      go_wp2_with fail
      refine Calls.mono (odone_any HSO8.out HWF.out HL5.out) ?_
      rintro e W9 hmd
      obtain ⟨A6, c6, rfl, hd9, hb9⟩ := hmd.form
      have HM := Lib.hid hmd
      clear hmd hd9 hb9
      go_wp2
      go_ret
      exact MadeD.out HSO8.out.bel HM.out rfl
end
end Go.Proofs.YtlhpmlknmgocoaaGreat
