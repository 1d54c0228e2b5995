/- Encode. -/
import Derived.Test.YtlhpmlknmgocoaaGreatMD
namespace Go.Proofs.YtlhpmlknmgocoaaGreat
set_option linter.unusedSimpArgs false
set_option linter.unusedVariables false
open Go.RowKit

/-- what Encode answers -/
def EncR (w : World) (r : List UInt8 × Int) (e : Ending) (w' : World) : Prop :=
  ∃ u, e = .returned (.tuple #[u, .int .i64 r.2]) ∧ Held w' (Inb w.heap.size w'.heap.size) (datB r.1) u ∧ Below w.heap.size w w'
theorem EncR.mk {w w' : World} {r : List UInt8 × Int} {b : List UInt8} {er : Int} {u : Value} (h : r = (b, er)) (h1 : Held w' (Inb w.heap.size w'.heap.size) (datB b) u) (h2 : Below w.heap.size w w') : EncR w r (.returned (.tuple #[u, .int .i64 er])) w' := by
  subst h; exact ⟨u, rfl, h1, h2⟩
def EOrel {α : Type} (w W1 : World) (q : Nat) (cs : Array Value) (pre : List Fld) (f : α → Fld) (l : List α) (i : Value) (wr : World) : Prop :=
  ∃ (k : Nat) (v : Value), k ≤ l.length ∧ i = .int .i64 (k : Int) ∧ OS W1 wr q (q + 3) v (pre ++ (l.take k).map f) ∧ Blk wr w.heap.size 26 cs ∧
    Blk wr (q + 1) 71 #[.slice none 0 0] ∧ Blk wr (q + 2) 71 #[.slice none 0 0]
theorem EOrel.start {α : Type} {w W1 wr : World} {q : Nat} {cs : Array Value} {pre : List Fld} {f : α → Fld} {l : List α} {v : Value} (h : OS W1 wr q (q + 3) v pre) (h1 : Blk wr w.heap.size 26 cs)
    (h2 : Blk wr (q + 1) 71 #[.slice none 0 0]) (h3 : Blk wr (q + 2) 71 #[.slice none 0 0]) : EOrel w W1 q cs pre f l (.int .i64 0) wr := ⟨0, v, Nat.zero_le _, rfl, by simpa using h, h1, h2, h3⟩
theorem encM_chk {m : Mo} (h : ¬ chk false m = 0) : encM m = ([], chk false m) := by unfold encM; rw [if_pos h]
theorem encM_gra {m : Mo} (h : chk false m = 0) (h2 : ¬ (writeE (graF m)).2 = 0) : encM m = ([], (writeE (graF m)).2) := by unfold encM; rw [if_neg (fun h' => h' h), if_pos h2]
theorem encM_top {m : Mo} (h : chk false m = 0) (h2 : (writeE (graF m)).2 = 0) : encM m = writeE [vF 1 8, dF 7 (encW (graF m)), dF 8 (encW [vF 2 17])] := by
  unfold encM; rw [if_neg (fun h' => h' h), if_neg (fun h' => h' h2)]
theorem wf_any {fs : List Fld} (h : WrA fs) (hd : ∀ f ∈ fs, f.data.length ≤ 4194304) : Wf64 fs := fun f hf => ⟨(h f hf).2, by have := hd f hf; omega⟩
theorem encW_len (fs : List Fld) : (encW fs).length ≤ 4194304 := writeE_len fs
theorem graF_wf (m : Mo) (hn : m.name.length ≤ 256) : Wf64 (graF m) := by
  refine wf_any (graF_ok m) fun f hf => ?_
  unfold graF at hf
  rcases List.mem_append.1 hf with hf | hf
  · rcases List.mem_append.1 hf with hf | hf
    · rcases List.mem_append.1 hf with hf | hf
      · rcases List.mem_append.1 hf with hf | hf
        · obtain ⟨a, -, rfl⟩ := List.mem_map.1 hf
          exact encW_len _
        · unfold nameF at hf
          split at hf
          · cases hf
          · simp only [List.mem_singleton] at hf
            subst hf
            show m.name.length ≤ _
            omega
      · obtain ⟨a, -, rfl⟩ := List.mem_map.1 hf
        exact encW_len _
    · obtain ⟨a, -, rfl⟩ := List.mem_map.1 hf
      exact encW_len _
  · obtain ⟨a, -, rfl⟩ := List.mem_map.1 hf
    exact encW_len _
theorem top_wf (g : List UInt8) (hg : g.length ≤ 4194304) (s : List UInt8) (hs : s.length ≤ 4194304) : Wf64 [vF 1 8, dF 7 g, dF 8 s] := by
  refine wf_any (top_ok g s) fun f hf => ?_
  simp only [List.mem_cons, List.mem_nil_iff, or_false] at hf
  rcases hf with rfl | rfl | rfl
  · simp [vF]
  · exact hg
  · exact hs
/-- two steps of another message that had no row as yet -/
theorem Fr.comp {W W' W'' : World} {g : Nat} {v v' : Value} (h : Fr W W' g v) (h' : Fr W' W'' g v') (hv : v.ownBlock = none) (hv' : ∀ k, v'.ownBlock = some k → W.heap.size ≤ k) : Fr W W'' g v :=
  ⟨h'.os.trans h.os, h'.tape.trans h.tape, h'.output.trans h.output, Nat.le_trans h.size h'.size, fun k hk h1 h2 => (h'.block k (Nat.lt_of_lt_of_le hk h.size) h1 (fun e => by have := hv' k e; omega)).trans (h.block k hk h1 h2)⟩
section
variable {w : World} {S : Nat → Prop} {us : List Value}
set_option maxRecDepth 100000 in
set_option maxHeartbeats 20000000 in
theorem encode_any {m : Mo} (hl : HL w S (datM m) us) : Calls Tryz.prog 7 #[.agg us.toArray] w (EncR w (encM m)) := by
  obtain ⟨A1, c1, A2, c2, A3, c3, A4, c4, rfl, hno, hin, hip, hou, b1, b2, b3, b4⟩ := hl.mod
  have HL := Lib.hid hl
  obtain ⟨mm, hmm⟩ : ∃ mm, m = mm := ⟨_, rfl⟩
  have HMM := Lib.hid hmm
  obtain ⟨ops, nm, nodes, inits, inputs, outputs⟩ := m
  dsimp only at *
  rw [hmm] at HL ⊢
  clear hl hmm b1 b2 b3 b4
  obtain ⟨cs, hcs⟩ : ∃ cs : Array Value, #[.int .i64 ops.toInt, .string ⟨nm.toArray⟩, .slice A1 nodes.length c1, .slice A2 inits.length c2, .slice A3 inputs.length c3, .slice A4 outputs.length c4] = cs := ⟨_, rfl⟩
  have HC := Lib.hid (check_any (HL.out.keep (fun h => h.alloc (.cells cs 26))))
  have HB0 := Lib.hid (Blk.new w 26 cs)
  have HBL0 := Lib.hid ((Below.refl w.heap.size w).alloc (Nat.le_refl _) (.cells cs 26))
  have HSZ : Hid ((w.alloc (.cells cs 26)).heap.size = w.heap.size + 1) := Lib.hid (by simp)
  have HCS := Lib.hid hcs
  clear hcs
  go_enter Tryz.func7, Tryz.ntmps7
  go_wp2_with fail
  have HC0 := HC.out
  rw [HCS.out] at HC0 ⊢
  refine Calls.mono HC0 ?_
  rintro e W1 ⟨rfl, hbl⟩
  have HB1 := Lib.hid (HB0.out.below hbl HB0.out.lt)
  have HBL1 : Hid (Below w.heap.size w W1) := Lib.hid (HBL0.out.trans (hbl.mono HBL0.out.size))
  have hz1 : w.heap.size + 1 ≤ W1.heap.size := by have := hbl.size; rw [HSZ.out] at this; exact this
  clear hbl HC HC0 HB0 HBL0 HSZ
  by_cases hck : chk false mm = 0
  case neg =>
    have HE := Lib.hid (encM_chk hck)
    obtain ⟨er, her⟩ : ∃ er, chk false mm = er := ⟨_, rfl⟩
    rw [her] at HE hck ⊢
    have e1 : (er == 0) = false := by simpa using hck
    go_wp2
    go_ret2
    exact EncR.mk HE.out (Held.nil _ _ _ _ _ (by unfold maxLen; omega)) HBL1.out
  have hok := (MoOk.of hck).ok
  have HOK := Lib.hid hok
  have hl1 := hok.l1
  have hl2 := hok.l2
  have hl3 := hok.l3
  have hl4 := hok.l4
  have hnm := hok.nm
  have HN := Lib.hid hok.nod
  have HI := Lib.hid hok.ini
  have HP := Lib.hid hok.inp
  have HO := Lib.hid hok.out
  have HGF : Hid (graF mm = (((nodes.map fun n => dF 1 (encW (nodF n))) ++ nameF 2 nm ++ (inits.map fun c => dF 5 (encW (tenF c.name c.t)))) ++ (inputs.map fun v => dF 11 (encW (valF v)))) ++ (outputs.map fun v => dF 12 (encW (valF v)))) := Lib.hid (by rw [← HMM.out]; rfl)
  have HGW := Lib.hid (graF_wf mm hnm)
  rw [← HMM.out] at hl1 hl2 hl3 hl4 hnm HN HI HP HO
  dsimp only at hl1 hl2 hl3 hl4 hnm HN HI HP HO
  rw [hck]
  have HCK := Lib.hid hck
  have hn1 := nameF_len1 2 nm
  clear hok hck HL
  have hno := hno.past HBL1.out
  have hin := hin.past HBL1.out
  have hip := hip.past HBL1.out
  have hou := hou.past HBL1.out
  obtain ⟨W2, hW2⟩ : ∃ W2, ((W1.alloc (.cells #[.slice none 0 0] 71)).alloc (.cells #[.slice none 0 0] 71)).alloc (.cells #[.slice none 0 0] 71) = W2 := ⟨_, rfl⟩
  have hst : OS W1 W2 W1.heap.size (W1.heap.size + 3) (.slice none 0 0) [] ∧ Blk W2 w.heap.size 26 cs ∧ Blk W2 (W1.heap.size + 1) 71 #[.slice none 0 0] ∧ Blk W2 (W1.heap.size + 2) 71 #[.slice none 0 0] := by
    subst hW2
    refine ⟨OS.new (((Blk.new _ _ _).alloc _).alloc _) ((((Below.refl _ _).alloc (Nat.le_refl _) _).alloc (by simp) _).alloc (by simp; omega) _) (Nat.le_refl _) (by omega) (by simp), ((HB1.out.alloc _).alloc _).alloc _, (Blk.new' _ _ _ (by simp)).alloc _, Blk.new' _ _ _ (by simp)⟩
  have hzq : w.heap.size + 1 ≤ W1.heap.size := hz1
  have HST := Lib.hid hst
  have HW2 := Lib.hid hW2
  have hb' := HST.out.2.1
  rw [← HCS.out] at hb'
  obtain ⟨p0, p1, p2, p3, p4, p5, -, -, -, -, -, -, lp⟩ := blkc6 hb'
  clear hst hW2 hb'
  go_upto_region 5 with fail
  rw [HW2.out]
  go_wp2
  go_loopw [32] (fun i wr => EOrel w W1 W1.heap.size cs [] (fun n => dF 1 (encW (nodF n))) nodes i wr) (fun i _ => nodes.length - (intOf i).toNat)
  case atStart =>
    have := EOrel.start (f := fun n => dF 1 (encW (nodF n))) (l := nodes) HST.out.1 HST.out.2.1 HST.out.2.2.1 HST.out.2.2.2
    exact this
  case round =>
    obtain ⟨k, v, hk, rfl, hs, hb, ht, ho⟩ := hrel
    have HS := Lib.hid hs
    have HB := Lib.hid hb
    have HT := Lib.hid ht
    have HOO := Lib.hid ho
    clear hs hb ht ho p0 p1 p2 p3 p4 p5 lp
    by_cases hlt : k < nodes.length
    · obtain ⟨bx, off, D1, d1, D2, d2, D3, d3, rfl, hla, a0, a1, a2, a3, a4⟩ := (hno.past HS.out.bel).nod_at hlt
      have HSN := Lib.hid (map_snoc (fun n => dF 1 (encW (nodF n))) hlt)
      have HOK1 := Lib.hid (HN.out nodes[k] (List.getElem_mem hlt))
      generalize nodes[k] = a at *
      have HLA := fun cz => Lib.hid (nodeOf_any (hla.keep (fun h => h.alloc (.cells cz 48))) HOK1.out)
      have HBA := fun (cz : Array Value) => Lib.hid ((Below.refl wr.heap.size wr).alloc (Nat.le_refl _) (.cells cz 48))
      clear hla
      go_wp2_with fail
      refine Calls.mono (HLA _).out ?_
      rintro e W3 hmd
      obtain ⟨A9, c9, rfl, hd2, hb2⟩ := hmd.form
      have HD2 := Lib.hid hd2
      have HBW := Lib.hid ((HBA _).out.trans (hb2.mono (by simp)))
      clear hmd hd2 hb2 HLA
      go_wp2_with fail
      refine Calls.mono (obytes_any 1 (HS.out.past HBW.out) (HS.out.fresh HBW.out (HD2.out.mono (fun x hx => ⟨by have := hx.1; simp at this; omega, hx.2⟩))) (by simp only [List.length_append, List.length_map, take_len hk, List.length_nil]; omega)) ?_
      rintro e W4 ⟨v4, rfl, hs4, hf4, -⟩
      have HS4 := Lib.hid hs4
      have HSP := Lib.hid (HS.out.past HBW.out)
      have HF4 := Lib.hid hf4
      clear hs4 hf4
      go_wp2
      go_roundw
      case rel => exact ⟨k + 1, v4, hlt, by go_num, by rw [HSN.out, ← List.append_assoc]; exact HS4.out, HSP.out.keep HF4.out (HB.out.below HBW.out HB.out.lt) (by omega) (by omega), HSP.out.keep HF4.out (HT.out.below HBW.out HT.out.lt) (by omega) (by omega), HSP.out.keep HF4.out (HOO.out.below HBW.out HOO.out.lt) (by omega) (by omega)⟩
      case measure => simp [intOf]; omega
    · have hke : k = nodes.length := by omega
      subst hke
      rw [List.take_length] at HS
      have hb' := HB.out
      rw [← HCS.out] at hb'
      obtain ⟨p0, p1, p2, p3, p4, p5, -, -, -, -, -, -, lp⟩ := blkc6 hb'
      obtain ⟨V0, hV⟩ : ∃ W, W = wr := ⟨_, rfl⟩
      subst hV
      have S0 := HS
      have B0 := HB
      have T0 := HT
      have O0 := HOO
      clear hb' HS HB HT HOO
      rw [List.nil_append] at S0
      go_wp2_with fail
      refine Calls.mono (oname_any 2 S0.out (by omega) (by simp only [List.length_map]; omega)) ?_
      rintro e V8 ⟨v8, rfl, hs8, hf8, -⟩
      have S8 := Lib.hid hs8
      have B8 := Lib.hid (S0.out.keep hf8 B0.out (by omega) (by omega))
      have T8 := Lib.hid (S0.out.keep hf8 T0.out (by omega) (by omega))
      have O8 := Lib.hid (S0.out.keep hf8 O0.out (by omega) (by omega))
      clear hs8 hf8 p0 p1 p2 p3 p4 p5 lp S0 B0 T0 O0
      have hb' := B8.out
      rw [← HCS.out] at hb'
      obtain ⟨p0, p1, p2, p3, p4, p5, -, -, -, -, -, -, lp⟩ := blkc6 hb'
      clear hb'
      go_wp2
      go_loopw [48] (fun i wr => EOrel w W1 W1.heap.size cs ((nodes.map fun n => dF 1 (encW (nodF n))) ++ nameF 2 nm) (fun c : Ini => dF 5 (encW (tenF c.name c.t))) inits i wr) (fun i _ => inits.length - (intOf i).toNat)
      case atStart => exact EOrel.start S8.out B8.out T8.out O8.out
      case round =>
        obtain ⟨k, v, hk, rfl, hs, hb, ht, ho⟩ := hrel
        have HS := Lib.hid hs
        have HB := Lib.hid hb
        have HT := Lib.hid ht
        have HOO := Lib.hid ho
        clear hs hb ht ho p0 p1 p2 p3 p4 p5 lp
        by_cases hlt : k < inits.length
        · obtain ⟨bx, off, D1, d1, D2, d2, D3, d3, D4, d4, rfl, hla, a0, a1, a2, a3, a4, a5⟩ := (hin.past HS.out.bel).ini_at hlt
          have HSN := Lib.hid (map_snoc (fun c : Ini => dF 5 (encW (tenF c.name c.t))) hlt)
          have HOK1 := Lib.hid (HI.out inits[k] (List.getElem_mem hlt))
          generalize inits[k] = a at *
          have hlt2 : HL wr (fun b => True) (datT a.t) [.int .i64 a.t.ty.toInt, .slice D1 a.t.dims.length d1, .slice D2 a.t.f.length d2, .slice D3 a.t.i.length d3, .slice D4 a.t.b.length d4] := by
            obtain ⟨u, us', e0, hu, h2⟩ := hla.one
            injection e0 with e0 e1
            rw [← e1] at h2
            exact h2.mono fun _ _ => trivial
          have HLA := fun cz => Lib.hid (tensorOf_any (name := a.name) (hlt2.keep (S' := fun _ => True) (fun h => h.alloc (.cells cz 57))) HOK1.out.1 HOK1.out.2)
          clear hlt2
          have HBA := fun (cz : Array Value) => Lib.hid ((Below.refl wr.heap.size wr).alloc (Nat.le_refl _) (.cells cz 57))
          clear hla
          go_wp2_with fail
          refine Calls.mono (HLA _).out ?_
          rintro e W3 hmd
          obtain ⟨A9, c9, rfl, hd2, hb2⟩ := hmd.form
          have HD2 := Lib.hid hd2
          have HBW := Lib.hid ((HBA _).out.trans (hb2.mono (by simp)))
          clear hmd hd2 hb2 HLA
          go_wp2_with fail
          refine Calls.mono (obytes_any 5 (HS.out.past HBW.out) (HS.out.fresh HBW.out (HD2.out.mono (fun x hx => ⟨by have := hx.1; simp at this; omega, hx.2⟩))) (by simp only [List.length_append, List.length_map, take_len hk, List.length_nil]; omega)) ?_
          rintro e W4 ⟨v4, rfl, hs4, hf4, -⟩
          have HS4 := Lib.hid hs4
          have HSP := Lib.hid (HS.out.past HBW.out)
          have HF4 := Lib.hid hf4
          clear hs4 hf4
          go_wp2
          go_roundw
          case rel => exact ⟨k + 1, v4, hlt, by go_num, by rw [HSN.out, ← List.append_assoc]; exact HS4.out, HSP.out.keep HF4.out (HB.out.below HBW.out HB.out.lt) (by omega) (by omega), HSP.out.keep HF4.out (HT.out.below HBW.out HT.out.lt) (by omega) (by omega), HSP.out.keep HF4.out (HOO.out.below HBW.out HOO.out.lt) (by omega) (by omega)⟩
          case measure => simp [intOf]; omega
        · have hke : k = inits.length := by omega
          subst hke
          rw [List.take_length] at HS
          have hb' := HB.out
          rw [← HCS.out] at hb'
          obtain ⟨p0, p1, p2, p3, p4, p5, -, -, -, -, -, -, lp⟩ := blkc6 hb'
          obtain ⟨V1, hV⟩ : ∃ W, W = wr := ⟨_, rfl⟩
          subst hV
          have S1 := HS
          have B1 := HB
          have T1 := HT
          have O1 := HOO
          clear hb' HS HB HT HOO
          go_wp2
          go_loopw [63] (fun i wr => EOrel w W1 W1.heap.size cs (((nodes.map fun n => dF 1 (encW (nodF n))) ++ nameF 2 nm) ++ (inits.map fun c : Ini => dF 5 (encW (tenF c.name c.t)))) (fun v => dF 11 (encW (valF v))) inputs i wr) (fun i _ => inputs.length - (intOf i).toNat)
          case atStart => exact EOrel.start S1.out B1.out T1.out O1.out
          case round =>
            obtain ⟨k, v, hk, rfl, hs, hb, ht, ho⟩ := hrel
            have HS := Lib.hid hs
            have HB := Lib.hid hb
            have HT := Lib.hid ht
            have HOO := Lib.hid ho
            clear hs hb ht ho p0 p1 p2 p3 p4 p5 lp
            by_cases hlt : k < inputs.length
            · obtain ⟨bx, off, D1, d1, rfl, hla, a0, a1, a2⟩ := (hip.past HS.out.bel).val_at hlt
              have HSN := Lib.hid (map_snoc (fun v => dF 11 (encW (valF v))) hlt)
              have HOK1 := Lib.hid (HP.out inputs[k] (List.getElem_mem hlt))
              generalize inputs[k] = a at *
              have HLA := fun cz => Lib.hid (valueOf_any (hla.keep (fun h => h.alloc (.cells cz 37))) HOK1.out)
              have HBA := fun (cz : Array Value) => Lib.hid ((Below.refl wr.heap.size wr).alloc (Nat.le_refl _) (.cells cz 37))
              clear hla
              go_wp2_with fail
              refine Calls.mono (HLA _).out ?_
              rintro e W3 hmd
              obtain ⟨A9, c9, rfl, hd2, hb2⟩ := hmd.form
              have HD2 := Lib.hid hd2
              have HBW := Lib.hid ((HBA _).out.trans (hb2.mono (by simp)))
              clear hmd hd2 hb2 HLA
              go_wp2_with fail
              refine Calls.mono (obytes_any 11 (HS.out.past HBW.out) (HS.out.fresh HBW.out (HD2.out.mono (fun x hx => ⟨by have := hx.1; simp at this; omega, hx.2⟩))) (by simp only [List.length_append, List.length_map, take_len hk, List.length_nil]; omega)) ?_
              rintro e W4 ⟨v4, rfl, hs4, hf4, -⟩
              have HS4 := Lib.hid hs4
              have HSP := Lib.hid (HS.out.past HBW.out)
              have HF4 := Lib.hid hf4
              clear hs4 hf4
              go_wp2
              go_roundw
              case rel => exact ⟨k + 1, v4, hlt, by go_num, by rw [HSN.out, ← List.append_assoc]; exact HS4.out, HSP.out.keep HF4.out (HB.out.below HBW.out HB.out.lt) (by omega) (by omega), HSP.out.keep HF4.out (HT.out.below HBW.out HT.out.lt) (by omega) (by omega), HSP.out.keep HF4.out (HOO.out.below HBW.out HOO.out.lt) (by omega) (by omega)⟩
              case measure => simp [intOf]; omega
            · have hke : k = inputs.length := by omega
              subst hke
              rw [List.take_length] at HS
              have hb' := HB.out
              rw [← HCS.out] at hb'
              obtain ⟨p0, p1, p2, p3, p4, p5, -, -, -, -, -, -, lp⟩ := blkc6 hb'
              obtain ⟨V2, hV⟩ : ∃ W, W = wr := ⟨_, rfl⟩
              subst hV
              have S2 := HS
              have B2 := HB
              have T2 := HT
              have O2 := HOO
              clear hb' HS HB HT HOO
              go_wp2
              go_loopw [75] (fun i wr => EOrel w W1 W1.heap.size cs ((((nodes.map fun n => dF 1 (encW (nodF n))) ++ nameF 2 nm) ++ (inits.map fun c : Ini => dF 5 (encW (tenF c.name c.t)))) ++ (inputs.map fun v => dF 11 (encW (valF v)))) (fun v => dF 12 (encW (valF v))) outputs i wr) (fun i _ => outputs.length - (intOf i).toNat)
              case atStart => exact EOrel.start S2.out B2.out T2.out O2.out
              case round =>
                obtain ⟨k, v, hk, rfl, hs, hb, ht, ho⟩ := hrel
                have HS := Lib.hid hs
                have HB := Lib.hid hb
                have HT := Lib.hid ht
                have HOO := Lib.hid ho
                clear hs hb ht ho p0 p1 p2 p3 p4 p5 lp
                by_cases hlt : k < outputs.length
                · obtain ⟨bx, off, D1, d1, rfl, hla, a0, a1, a2⟩ := (hou.past HS.out.bel).val_at hlt
                  have HSN := Lib.hid (map_snoc (fun v => dF 12 (encW (valF v))) hlt)
                  have HOK1 := Lib.hid (HO.out outputs[k] (List.getElem_mem hlt))
                  generalize outputs[k] = a at *
                  have HLA := fun cz => Lib.hid (valueOf_any (hla.keep (fun h => h.alloc (.cells cz 37))) HOK1.out)
                  have HBA := fun (cz : Array Value) => Lib.hid ((Below.refl wr.heap.size wr).alloc (Nat.le_refl _) (.cells cz 37))
                  clear hla
                  go_wp2_with fail
                  refine Calls.mono (HLA _).out ?_
                  rintro e W3 hmd
                  obtain ⟨A9, c9, rfl, hd2, hb2⟩ := hmd.form
                  have HD2 := Lib.hid hd2
                  have HBW := Lib.hid ((HBA _).out.trans (hb2.mono (by simp)))
                  clear hmd hd2 hb2 HLA
                  go_wp2_with fail
                  refine Calls.mono (obytes_any 12 (HS.out.past HBW.out) (HS.out.fresh HBW.out (HD2.out.mono (fun x hx => ⟨by have := hx.1; simp at this; omega, hx.2⟩))) (by simp only [List.length_append, List.length_map, take_len hk, List.length_nil]; omega)) ?_
                  rintro e W4 ⟨v4, rfl, hs4, hf4, -⟩
                  have HS4 := Lib.hid hs4
                  have HSP := Lib.hid (HS.out.past HBW.out)
                  have HF4 := Lib.hid hf4
                  clear hs4 hf4
                  go_wp2
                  go_roundw
                  case rel => exact ⟨k + 1, v4, hlt, by go_num, by rw [HSN.out, ← List.append_assoc]; exact HS4.out, HSP.out.keep HF4.out (HB.out.below HBW.out HB.out.lt) (by omega) (by omega), HSP.out.keep HF4.out (HT.out.below HBW.out HT.out.lt) (by omega) (by omega), HSP.out.keep HF4.out (HOO.out.below HBW.out HOO.out.lt) (by omega) (by omega)⟩
                  case measure => simp [intOf]; omega
                · have hke : k = outputs.length := by omega
                  subst hke
                  rw [List.take_length] at HS
                  have hb' := HB.out
                  rw [← HCS.out] at hb'
                  obtain ⟨p0, p1, p2, p3, p4, p5, -, -, -, -, -, -, lp⟩ := blkc6 hb'
                  obtain ⟨V3, hV⟩ : ∃ W, W = wr := ⟨_, rfl⟩
                  subst hV
                  have S3 := HS
                  have B3 := HB
                  have T3 := HT
                  have O3 := HOO
                  clear hb' HS HB HT HOO
                  rw [← HGF.out] at S3
                  clear p0 p1 p2 p3 p4 p5 lp
                  have hgl : (graF mm).length ≤ 2900000000000 := by rw [HGF.out]; simp only [List.length_append, List.length_map]; omega
                  obtain ⟨Ag, cg, hvg, h2g, h3g, h4g⟩ := (S3.out.r.held (by omega)).rf
                  subst hvg
                  obtain ⟨k0, z0, l0⟩ := S3.out.start
                  have HWR := Lib.hid (write_any Ag cg (graF mm) V3 h3g h2g h4g HGW.out)
                  have HLW := Lib.hid (writeE_len (graF mm))
                  have HEW : Hid (encW (graF mm) = (writeE (graF mm)).1) := Lib.hid rfl
                  have hz3 := S3.out.lw
                  have HSV := Lib.hid S3.out.bel
                  clear h2g h3g h4g
                  generalize (graF mm).length = ng at *
                  go_wp2_with fail
                  refine Calls.mono HWR.out ?_
                  rintro e V4 ⟨ub, rfl, hob, hb4⟩
                  have HBW4 := Lib.hid hb4
                  have HD4 := Lib.hid (hob.held (by have := HLW.out; omega))
                  obtain ⟨A5, n5, c5, rfl, -⟩ := hob.form2
                  have hz4 := hb4.size
                  clear hob hb4 k0 z0 l0 HWR
                  have HBW14 : Hid (Below w.heap.size w V4) := Lib.hid (HBL1.out.trans ((HSV.out.trans (HBW4.out.mono HSV.out.size)).mono HBL1.out.size))
                  have T4 := Lib.hid (T3.out.below HBW4.out T3.out.lt)
                  have O4 := Lib.hid (O3.out.below HBW4.out O3.out.lt)
                  by_cases hge : (writeE (graF mm)).2 = 0
                  case neg =>
                    have HE := Lib.hid (encM_gra HCK.out hge)
                    obtain ⟨er, her⟩ : ∃ er, (writeE (graF mm)).2 = er := ⟨_, rfl⟩
                    rw [her] at HE hge ⊢
                    have e1 : (er == 0) = false := by simpa using hge
                    go_wp2
                    go_ret2
                    exact EncR.mk HE.out (Held.nil _ _ _ _ _ (by unfold maxLen; omega)) HBW14.out
                  have HE := Lib.hid (encM_top HCK.out hge)
                  rw [hge]
                  rw [← HEW.out] at HD4
                  have HGL := Lib.hid (encW_len (graF mm))
                  generalize encW (graF mm) = gb at *
                  clear hge
                  have OS4 : Hid (OS w V4 (W1.heap.size + 1) V4.heap.size (.slice none 0 0) []) := Lib.hid (OS.new T4.out HBW14.out (by omega) (by omega) (Nat.le_refl _))
                  go_wp2_with fail
                  refine Calls.mono (onumber_any 2 17 OS4.out (by simp)) ?_
                  rintro e V5 ⟨v5, rfl, hs5, hf5, -⟩
                  rw [List.nil_append] at hs5
                  have OS5 := Lib.hid hs5
                  have O5 := Lib.hid (hf5.blk O4.out (by omega) (by simp [Value.ownBlock]))
                  have HD5 := Lib.hid (HD4.out.rd (g := W1.heap.size + 1) (fun h => by have := h.1; omega) (hf5.gb rfl))
                  have hz5 := hf5.size
                  have OO5 : Hid (OS w V5 (W1.heap.size + 2) V3.heap.size (.slice none 0 0) []) := Lib.hid (OS.new O5.out hs5.bel (by omega) (by omega) (by omega))
                  clear hs5 hf5 OS4
                  go_wp2_with fail
                  refine Calls.mono (onumber_any 1 8 OO5.out (by simp)) ?_
                  rintro e V6 ⟨v6, rfl, hs6, hf6, hown6⟩
                  rw [List.nil_append] at hs6
                  have OO6 := Lib.hid hs6
                  have hz6 := hf6.size
                  have HF6 := Lib.hid hf6
                  have HD6 : Hid (Held V6 (Oth V3.heap.size V6 v6) (datB gb) (.slice A5 n5 c5)) := Lib.hid ((HD5.out.rd (g := W1.heap.size + 2) (fun h => by have := h.1; omega) (hf6.gb rfl)).mono fun x hx => ⟨hx.1, by have := hx.2; omega, fun e => by
                    rcases hown6 with h | ⟨kk, h, h'⟩
                    · rw [h] at e; simp [Value.ownBlock] at e
                    · rw [h] at e; injection e with e; have := hx.2; omega⟩)
                  have hownq : Hid (∀ k, v6.ownBlock = some k → V5.heap.size ≤ k) := Lib.hid (fun k e => by
                    rcases hown6 with h | ⟨kk, h, h'⟩
                    · rw [h] at e; simp [Value.ownBlock] at e
                    · rw [h] at e; injection e with e; omega)
                  clear hs6 hf6 hown6 HD5 OO5
                  go_wp2_with fail
                  refine Calls.mono (obytes_any 7 OO6.out HD6.out (by simp)) ?_
                  rintro e V7 ⟨v7, rfl, hs7, hf7, -⟩
                  have OO7 := Lib.hid hs7
                  have hz7 := hf7.size
                  have OS7 : Hid (OS w V7 (W1.heap.size + 1) V4.heap.size v5 [vF 2 (Go.Proofs.YtlhpmlknmgocoaaGreat.u64 17)]) := Lib.hid (OS5.out.frame (HF6.out.comp hf7 rfl hownq.out) rfl (by omega) (by omega) (by omega))
                  clear hs7 hf7 OS5 HF6 HD6 OO6
                  go_wp2_with fail
                  refine Calls.mono (odone_any OS7.out (wf_of (WrA.v (num := 2) (by decide) (by decide) (u64_lt 17)) (by rw [wr_one]; have := wrF_v_len 2 (Go.Proofs.YtlhpmlknmgocoaaGreat.u64 17); omega)) (by simp)) ?_
                  rintro e V8 hmd
                  obtain ⟨A8, c8, rfl, hd8, hb8⟩ := hmd.form
                  have HBW8 := Lib.hid hb8
                  have HD8 := Lib.hid hd8
                  clear hmd hd8 hb8 OS7
                  go_wp2_with fail
                  refine Calls.mono (obytes_any 8 (OO7.out.past HBW8.out) (OO7.out.fresh HBW8.out HD8.out) (by simp)) ?_
                  rintro e V9 ⟨v9, rfl, hs9, hf9, -⟩
                  have he9 : ([vF 1 (Go.Proofs.YtlhpmlknmgocoaaGreat.u64 8)] ++ [dF 7 gb]) ++ [dF 8 (encW [vF 2 (Go.Proofs.YtlhpmlknmgocoaaGreat.u64 17)])] = [vF 1 8, dF 7 gb, dF 8 (encW [vF 2 17])] := rfl
                  rw [he9] at hs9
                  obtain ⟨Ah, ch, hvh, h2h, h3h, h4h⟩ := (hs9.r.held (by simp)).rf
                  subst hvh
                  obtain ⟨k0, z0, l0⟩ := hs9.start
                  have HWR := Lib.hid (write_any Ah ch [vF 1 8, dF 7 gb, dF 8 (encW [vF 2 17])] V9 h3h h2h h4h (top_wf gb HGL.out _ (encW_len _)))
                  have HLW2 := Lib.hid (writeE_len [vF 1 8, dF 7 gb, dF 8 (encW [vF 2 17])])
                  have HB9 := Lib.hid hs9.bel
                  clear hs9 hf9 he9 h2h h3h h4h HBW8 HD8 OO7
                  generalize writeE [vF 1 8, dF 7 gb, dF 8 (encW [vF 2 17])] = rr at *
                  generalize [vF 1 8, dF 7 gb, dF 8 (encW [vF 2 17])].length = n9 at *
                  go_wp2_with fail
                  refine Calls.mono HWR.out ?_
                  rintro e V10 ⟨u10, rfl, ho10, hb10⟩
                  have HD10 := Lib.hid (ho10.held (by have := HLW2.out; omega))
                  obtain ⟨A10, n10, c10, rfl, -⟩ := ho10.form2
                  clear ho10 k0 z0 l0 HWR
                  have hz9 := HB9.out.size
                  have HB10 := Lib.hid (HB9.out.trans (hb10.mono HB9.out.size))
                  clear hb10
                  go_wp2
                  go_ret2
                  rw [HE.out]
                  exact ⟨_, rfl, HD10.out.mono (fun x hx => ⟨by have := hx.1; omega, hx.2⟩), HB10.out⟩
end
end Go.Proofs.YtlhpmlknmgocoaaGreat
