/- Rows of fields that are appended; a message as a row of the call's own. -/
import Derived.Test.YtlhpmlknmgocoaaOnPa
namespace Go.Proofs.Ytlhpmlknmgocoaa
set_option linter.unusedSimpArgs false
set_option linter.unusedVariables false
open Go.RowKit

theorem DV.held {w : World} {B : Nat} {v : Value} {l : List UInt8} (h : DV w B v l) (hl : l.length ≤ 140737488355328) : Held w (fun b => b < B) (datB l) v := by
  obtain ⟨A, c, rfl, h1, h2, h3⟩ := h
  refine .row 1 _ A l.length c (byt l) (by simp) (by simp [byt]) h1 h2 hl (fun h0 => ?_) (fun j hj hj' => by simp only [byt, List.getElem_map]; exact .leaf _)
  simp only [List.length_map] at h0
  obtain ⟨ad, e, hb, hc⟩ := h3.2 h0
  exact ⟨ad, e, hb, hc⟩
theorem OFR.held {w : World} {B base : Nat} {e : TypeId} {v : Value} {fs : List Fld} (h : OFR B w base e v fs) (hm : fs.length ≤ 140737488355328) (hd : ∀ i (h : i < fs.length), fs[i].data.length ≤ 140737488355328) :
    Held w (fun b => b < B ∨ base ≤ b) (datFs fs) v := by
  obtain ⟨ds, h1, h2, h3⟩ := h
  have hl := hl_fcells (w := w) (S := fun b => b < B ∨ base ≤ b) fs ds h1 fun i h h' => ((h3 i h h').held (hd i h)).mono fun b hb => .inl hb
  rcases h2.2 with ⟨rfl, hn⟩ | ⟨g, cap, cur, rfl, hb, hg, hnc, hcm, hcs, htake⟩
  · obtain rfl : fs = [] := List.eq_nil_of_length_eq_zero hn
    exact Held.nil _ _ _ _ _ (by unfold maxLen; omega)
  · exact .row 4 _ _ fs.length cap (fcells fs ds) (datFs_len fs) hl.len hnc hcm hm (fun _ => ⟨_, rfl, .inr hb, fun j u hj => h2.cells (g := g) rfl j u hj⟩) hl.get
theorem fd_one {w : World} {S : Nat → Prop} {f : Fld} {d : Dat} {u : Value} (hd : d ∈ datFd f) (h : Held w S d u) : u.oneCell' = true := by
  simp only [datFd, List.mem_cons, List.mem_nil_iff, or_false] at hd
  rcases hd with rfl | rfl | rfl | rfl
  · rw [h.leaf_eq]; rfl
  · rw [h.leaf_eq]; rfl
  · rw [h.leaf_eq]; rfl
  · obtain ⟨A, c, rfl, -⟩ := Held.form1 h
    rfl
section
variable {P : Program} {ops : Array Oper} {rest : List Oper} {o : Oper} {a : Act} {Q : Exit → Act → World → Prop} {w : World}
theorem append_flds (T e : TypeId) (ht : P.underlying T = some (.slice e)) (hinfo : (P.info? e).map (fun i => (i.zero, i.size, i.bytes)) = some (some (.agg #[.int .i64 0, .int .i64 0, .int .u64 0, .slice none 0 0]), 4, 48))
    (hgd : o.guard = none) (s x : Operand) (ho : o.op = .call { callee := .builtin .append, args := #[s, x], argTypes := #[T, T] }) {base : Nat} {v : Value} {fs : List Fld} (hown : HRow w base e 4 v fs.length (fs.flatMap datFd)) (hs : a.eval s = v)
    {A : Option Addr} {n cap : Nat} {S : Nat → Prop} (gs : List Fld) (hx : a.eval x = .slice A n cap) (hg : Held w S (datFs gs) (.slice A n cap)) (hS : ∀ b, S b → b < w.heap.size → Oth base w v b)
    (hlen : fs.length + gs.length ≤ 2900000000000) (hbase : base ≤ w.heap.size)
    (h : ∀ v' w', HRow w' base e 4 v' (fs ++ gs).length ((fs ++ gs).flatMap datFd) → w.grownBy w' v.ownBlock → (v'.ownBlock = v.ownBlock ∨ v'.ownBlock = some w.heap.size) → wpList P ops Q rest (a.put o.dst v') w') :
    wpList P ops Q (o :: rest) a w := by
  obtain ⟨i0, hi0, hz0, hz1, hz2⟩ := info_parts hinfo
  obtain ⟨xs, h1, h2, h3⟩ := hown
  have hg' := hg.lt
  unfold datFs at hg'
  generalize hd0 : Dat.row 4 (gs.flatMap datFd) = d0 at hg'
  generalize hv0 : Value.slice A n cap = v0 at hg'
  cases hg' with
  | leaf _ => cases hd0
  | row n' ds A' m c us hl hu hc hm hb ha hd =>
    injection hd0 with e1 e2
    subst e1 e2
    injection hv0 with e1 e2 e3
    subst e1 e2 e3
    have hmn : n = gs.length := by
      rw [datFs_len] at hl
      omega
    subst hmn
    refine wpList_append_any _ hgd s x T ho base e i0 _ 4 48 ht hi0 hz0 hz1 hz2 rfl (by omega) v fs.length xs hs h2 w.heap.size A gs.length cap us hx ⟨by rw [hu, hl], fun h0 => ?_⟩ ?_ (by unfold maxLen; omega) (fit_small (by omega)) hbase ?_
    · obtain ⟨ad, e, hs', hcell⟩ := ha (by rw [hl]; omega)
      exact ⟨ad, e, hs'.2, hcell⟩
    · intro u hu'
      obtain ⟨j, hj, rfl⟩ := List.getElem_of_mem hu'
      have hj2 : j < (gs.flatMap datFd).length := by omega
      obtain ⟨f, -, hf⟩ := List.mem_flatMap.1 (List.getElem_mem hj2)
      exact fd_one hf (hd j hj2 hj)
    · intro v' w' hown' hgr hat
      refine h v' w' ⟨xs ++ us, by rw [List.length_append, List.flatMap_append, List.length_append, h1, hu], by rw [List.length_append]; exact hown', fun j hj hj' => ?_⟩ hgr hat
      have hkeep : ∀ {d : Dat} {u : Value}, Held w (Oth base w v) d u → Held w' (Oth base w' v') d u := fun hd => (hd.grown hgr fun b hb e1 => hb.2.2 e1.symm).mono fun b hb => ⟨hb.1, Nat.lt_of_lt_of_le hb.2.1 hgr.size, by
        rcases hat with e1 | e1
        · rw [e1]; exact hb.2.2
        · rw [e1]
          have := hb.2.1
          simp
          omega⟩
      have hj0 := hj
      rw [List.flatMap_append, List.length_append] at hj0
      rw [List.length_append] at hj'
      have hcat : ((fs ++ gs).flatMap datFd)[j] = (fs.flatMap datFd ++ gs.flatMap datFd)[j]'(by rw [List.length_append]; omega) := by
        congr 1
        exact List.flatMap_append
      rw [hcat]
      by_cases hlt : j < (fs.flatMap datFd).length
      · rw [List.getElem_append_left hlt, List.getElem_append_left (by omega)]
        exact hkeep (h3 j hlt (by omega))
      · rw [List.getElem_append_right (by omega), List.getElem_append_right (by omega)]
        have h4 := (hd (j - (fs.flatMap datFd).length) (by omega) (by omega)).mono (S' := Oth base w v) fun b hb => hS b hb.1 hb.2
        have h5 := hkeep h4
        simpa [h1] using h5
end
def MadeO (W : World) (b : List UInt8) (e : Ending) (W' : World) : Prop := ∃ u, e = .returned u ∧ OB W' W.heap.size u b ∧ Below W.heap.size W W'
set_option maxRecDepth 100000 in
theorem message_own {w : World} {S : Nat → Prop} {v : Value} {b : List UInt8} (num : Int) (hv : Held w S (datB b) v) (hl : b.length ≤ 4194304) : Calls Try.prog 18 #[.int .i64 num, v] w (MadeO w (msg num b)) := by
  obtain ⟨A, c, rfl, -⟩ := Held.form1 hv
  have hh := held_fld (w := w.alloc (.cells #[.int .i64 num, .int .i64 2, .int .u64 0, .slice A b.length c] 102)) (f := dF num b) (g := w.heap.size) (T := 102) (Blk.new _ _ _) (hv.alloc _)
  obtain ⟨A1, c1, e1, h2, h3, h4⟩ := hh.rf
  injection e1 with e1 e2 e3
  subst e1 e3
  clear e2
  have HC := Lib.hid (rwrite_any (some ⟨w.heap.size, 0, none⟩) 1 [dF num b] (w.alloc (.cells #[.int .i64 num, .int .i64 2, .int .u64 0, .slice A b.length c] 102)) h3 h2 h4 (fun f hf => by
    simp only [List.mem_singleton] at hf
    subst hf
    exact ⟨by simp [dF], by simp only [dF]; omega⟩))
  have HM : Hid (msg num b = (writeE [dF num b]).1) := Lib.hid rfl
  have HA := Lib.hid ((Below.refl w.heap.size w).alloc (Nat.le_refl _) (.cells #[.int .i64 num, .int .i64 2, .int .u64 0, .slice A b.length c] 102))
  generalize writeE [dF num b] = r at *
  generalize b.length = n at *
  clear hh h2 h3 h4 hv
  go_enter Try.func18, Try.ntmps18
  go_wp2_with fail
  refine Calls.mono HC.out ?_
  rintro e w1 ⟨u, rfl, ho, hb⟩
  have HD := Lib.hid (ho.mono (base' := w.heap.size) (by simp))
  obtain ⟨A2, n2, c2, rfl, -⟩ := ho.form2
  have HB := Lib.hid hb
  clear ho hb
  go_wp2
  go_ret
  rw [HM.out]
  exact ⟨_, rfl, HD.out, HA.out.trans (HB.out.mono (by simp))⟩
end Go.Proofs.Ytlhpmlknmgocoaa
