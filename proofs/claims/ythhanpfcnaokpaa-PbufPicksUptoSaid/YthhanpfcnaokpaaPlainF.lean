/- Contracts of the statements' helpers over fields: plain, equal. -/
import Derived.Test.YthhanpfcnaokpaaOpenF
import Derived.Deep.RegionLaw
import Derived.Deep.RegionHeld3
namespace Go.Proofs.Ythhanpfcnaokpaa
open Go.RowKit

section
variable {P : Program} {ops : Array Oper} {o : Oper} {a : Act} {K : Act → World → Prop} {Q : Exit → Act → World → Prop} {E : Prop} {w : World}
/-- an append of one field as a step of a region that draws its order -/
theorem step_fieldD {D : Value → List UInt8 → Prop} (T e : TypeId) (ht : P.underlying T = some (.slice e)) (hinfo : (P.info? e).map (fun i => (i.zero, i.size, i.bytes)) = some (some (.agg #[.int .i64 0, .int .i64 0, .int .u64 0, .slice none 0 0]), 4, 48))
    (hgd : o.guard = none) (s x : Operand)
    (ho : o.op = .call { callee := .builtin .append, args := #[s, x], argTypes := #[T, T] }) {base : Nat} {v : Value} {fs : List Fld} (hown : OFD D w base e v fs) (hs : a.eval s = v)
    {n0 n1 n2 : Int} {dv : Value} {g : Nat} (hx : a.eval x = .slice (some ⟨g, 0, none⟩) 1 1) (hgs : g = w.heap.size) (f : Fld) (hn0 : n0 = f.num) (hn1 : n1 = f.wire) (hn2 : n2 = (f.x : Int)) (hdv : ∃ A n c, dv = .slice A n c) (hd : D dv f.data)
    (hlen : fs.length + 1 ≤ 2932031007400) (hbase : base ≤ w.heap.size)
    (h : ∀ v' w', OFD D w' base e v' (fs ++ [f]) → w.grownBy w' v.ownBlock → K (a.put o.dst v') w') :
    if Region.wanted o (yielded ops a.tmps) = true then Oper.wp P o a (w.alloc (.cells #[.int .i64 n0, .int .i64 n1, .int .u64 n2, dv] e)) K Q else E := by
  obtain ⟨i0, hi0, hz0, hz1, hz2⟩ := info_parts hinfo
  subst hn0 hn1 hn2 hgs
  obtain ⟨ds, h1, h2, h3⟩ := hown
  refine step_append_any _ hgd s x T ho base e i0 _ 4 48 ht hi0 hz0 hz1 hz2 rfl (by omega) v fs.length (fcells fs ds) hs (h2.alloc _) (w.heap.size + 1) _ 1 1
    (fcell f dv) hx (Reads.new_ w _ (fcell f dv) 4 1 rfl) ?_ (by unfold maxLen; omega) (fit_small (by omega)) (by simp; omega) ?_
  · intro u hu
    obtain ⟨A, n, c, rfl⟩ := hdv
    simp only [fcell, List.mem_cons, List.not_mem_nil, or_false] at hu
    rcases hu with rfl | rfl | rfl | rfl <;> rfl
  · intro v' w' hown' hg hat
    refine h v' w' ⟨ds ++ [dv], by simp [h1], ?_, ?_⟩ ((World.grownBy_alloc w _ _).trans hg)
    · rw [fcells_snoc f dv fs ds h1, List.length_append]
      exact hown'
    · intro i hi hi'
      by_cases hlt : i < fs.length
      · have := h3 i hlt (by omega)
        rwa [List.getElem_append_left hlt, List.getElem_append_left (by omega)]
      · have hie : i = fs.length := by simp at hi; omega
        subst hie
        rw [List.getElem_append_right (by omega), List.getElem_append_right (by omega)]
        simpa [h1] using hd
end

theorem rwrite_at {A : Option Addr} {cap n : Nat} {w : World} (fs : List Fld) {l : List UInt8} {er : Int} (hn : n = fs.length) (hr : writeE fs = (l, er)) (hm : cap ≤ maxLen) (hcap : fs.length ≤ cap) (hb : RF w w.heap.size A fs) (hwf : Wf64 fs) :
    Calls Try.prog 24 #[.slice A n cap] w fun e w' => ∃ v, e = .returned (.tuple #[v, .int .i64 er]) ∧ OB w' w.heap.size v l ∧ Below w.heap.size w w' := by
  subst hn
  have h := rwrite_any A cap fs w hm hcap hb hwf
  rw [hr] at h
  exact h

/-- the loop of plain -/
def PLrel (fs : List Fld) (w : World) (out i : Value) (wr : World) : Prop := ∃ k : Nat, k ≤ fs.length ∧ i = .int .i64 (k : Int) ∧ OFD (DV w w.heap.size) wr w.heap.size 55 out (fs.take k) ∧ Below w.heap.size w wr

set_option maxRecDepth 100000 in
set_option maxHeartbeats 800000 in
theorem plain_any (A : Option Addr) (cap : Nat) (fs : List Fld) (w : World) (hcap : fs.length ≤ cap) (hm : cap ≤ 2932031007400) (hb : RF w w.heap.size A fs) :
    Calls Try.prog 25 #[.slice A fs.length cap] w fun e w' => ∃ A' c', e = .returned (.slice A' fs.length c') ∧ fs.length ≤ c' ∧ c' ≤ maxLen ∧ RF w' w'.heap.size A' fs ∧ Below w.heap.size w w' := by
  go_enter Try.func25, Try.ntmps25
  go_wp2
  go_loopw [3, 4] (fun out i wr => PLrel fs w out i wr) (fun _ i _ => fs.length - (intOf i).toNat)
  case atStart => exact ⟨0, Nat.zero_le _, rfl, OFD.nil _ _ _, Below.refl _ _⟩
  case round =>
    obtain ⟨k, hk, rfl, hown, hbel⟩ := hrel
    have hsz := hbel.size
    by_cases hlt : k < fs.length
    · obtain ⟨b, off, dv, rfl, hbb, hdv, a0', a1', a2', a3'⟩ := hb.at_ hlt
      have a0 := (hbel.cell (p := ⟨b, _, none⟩) hbb).trans a0'
      have a1 := (hbel.cell (p := ⟨b, _, none⟩) hbb).trans a1'
      have a2 := (hbel.cell (p := ⟨b, _, none⟩) hbb).trans a2'
      have a3 := (hbel.cell (p := ⟨b, _, none⟩) hbb).trans a3'
      clear a0' a1' a2' a3'
      have HD := Lib.hid hdv
      have hkl : (k : Int) < (fs.length : Int) := by omega
      obtain ⟨Ad, cd, rfl, hld, hmd, hrd⟩ := hdv
      have HT := Lib.hid (show fs.take (k + 1) = fs.take k ++ [fs[k]] from List.take_succ_eq_append_getElem hlt)
      have hlk : (fs.take k).length ≤ k := by simp; omega
      generalize fs[k] = f at *
      obtain ⟨num, wire, x, data⟩ := f
      dsimp only at *
      have hbw : b < wr.heap.size := by omega
      have hown' : OFD (DV w w.heap.size) wr.drew w.heap.size 55 u3 (fs.take k) := hown
      have hne : u3.ownBlock ≠ some b := fun e => by
        obtain ⟨ds, h1, h2, h3⟩ := hown
        have := (h2.lt b e).1
        omega
      go_wp2_with fail
      go_region_held3 (fun w' => w'.cell? ⟨b, off + k * 4, none⟩ = some (.int .i64 num) ∧ w'.cell? ⟨b, off + k * 4 + 1, none⟩ = some (.int .i64 wire) ∧ w'.cell? ⟨b, off + k * 4 + 2, none⟩ = some (.int .u64 (x : Int)) ∧ w'.cell? ⟨b, off + k * 4 + 3, none⟩ = some (.slice Ad data.length cd))
        (first
          | go_keep
          | (go_split_ands
             refine ⟨?_, ?_, ?_, ?_⟩
             · exact (hg.cell_far _ hbw (Ne.symm hne)).trans a0
             · exact (hg.cell_far _ hbw (Ne.symm hne)).trans a1
             · exact (hg.cell_far _ hbw (Ne.symm hne)).trans a2
             · exact (hg.cell_far _ hbw (Ne.symm hne)).trans a3))
        ((refine step_fieldD 35 55 (by kernel_rfl) info_rf (by rfl) _ _ (by rfl) hown' (by rfl) (by rfl) (by simp) ⟨num, wire, x, data⟩ rfl rfl rfl ⟨_, _, _, rfl⟩ HD.out (by omega) hsz ?_; intro v' w' ho hg))
      go_wp2
      go_roundw
      case rel => exact ⟨k + 1, by omega, by go_num, by rw [HT.out]; exact ho, grown_belowF hown' hg hsz (Nat.le_refl _) hbel.drew⟩
      case measure => simp [intOf]; omega
    · have hk' : k = fs.length := by omega
      subst hk'
      rw [List.take_length] at hown
      have hfin := OFD.form hown (fun dv l h => (h.below hbel).more hsz)
      obtain ⟨A', c', rfl, h1, h2, h3⟩ := hfin
      go_wp2
      go_ret
      exact ⟨A', c', rfl, h1, h2, h3, hbel⟩
end Go.Proofs.Ythhanpfcnaokpaa
