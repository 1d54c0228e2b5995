/- The contract of pbuf.Ints. -/
import Derived.Test.YthhanpfcnaokpaaIntsP
namespace Go.Proofs.Ythhanpfcnaokpaa
open Go.RowKit

/-- a row of numbers of the call's own -/
def nums (k : IntKind) (l : List Nat) : List Value := l.map fun (x : Nat) => .int k (x : Int)
def ON (k : IntKind) (w : World) (base : Nat) (e : TypeId) (v : Value) (l : List Nat) : Prop := w.ownsRow base e 1 v l.length (nums k l)
theorem nums_append (k : IntKind) (a b : List Nat) : nums k (a ++ b) = nums k a ++ nums k b := List.map_append
theorem ON.nil (k : IntKind) (w : World) (base : Nat) (e : TypeId) : ON k w base e (.slice none 0 0) [] := World.ownsRow_nil w base _ _
theorem ON.below {k : IntKind} {w w' : World} {base B : Nat} {e : TypeId} {v : Value} {l : List Nat} (h : ON k w base e v l) (hb : Below B w w') (hB : w.heap.size ≤ B) : ON k w' base e v l :=
  World.ownsRow.kept (row := none) h ⟨hb.os, hb.tape, hb.output, hb.size, fun k hk _ => hb.block k (by omega)⟩ (by cases v.ownBlock <;> simp)
theorem ON.alloc {k : IntKind} {w : World} {base : Nat} {e : TypeId} {v : Value} {l : List Nat} (h : ON k w base e v l) (o : Obj) : ON k (w.alloc o) base e v l := World.ownsRow.alloc h o
theorem ON.form {k : IntKind} {w : World} {base : Nat} {e : TypeId} {v : Value} {l : List Nat} (h : ON k w base e v l) : ∃ A n cap, v = .slice A n cap ∧ n = l.length ∧ n ≤ cap ∧ cap ≤ maxLen ∧ Reads w w.heap.size 1 A n (nums k l) := by
  have h0 := h
  rcases h.2 with ⟨rfl, hn⟩ | ⟨g, cap, cur, rfl, hb, hg, hnc, hcm, hcs, htake⟩
  · refine ⟨none, 0, 0, rfl, by omega, by omega, by unfold maxLen; omega, ?_⟩
    rw [List.eq_nil_of_length_eq_zero hn]
    exact Reads.none_
  · exact ⟨_, _, cap, rfl, rfl, hnc, hcm, Reads.of_own h0⟩
theorem ON.grownB {k : IntKind} {w w' : World} {e : TypeId} {v : Value} {base : Nat} {l : List Nat} (hown : ON k w base e v l) (hg : w.grownBy w' v.ownBlock) (hbase : base ≤ w.heap.size) {a : World} {B : Nat} (hB : B ≤ base) (hb : Below B a w) : Below B a w' :=
  hb.grown hg (by omega) (fun k hk => by have := (World.ownsRow.lt hown k hk).1; omega)

theorem append_num {k : IntKind} {T e : TypeId} {bytes : Nat} (ht : Try.prog.underlying T = some (.slice e)) (hinfo : (Try.prog.info? e).map (fun i => (i.zero, i.size, i.bytes)) = some (some (.int k 0), 1, bytes)) (hby : bytes ≤ 8)
    {ops : Array Oper} {rest : List Oper} {o : Oper} {a : Act} {Q : Exit → Act → World → Prop} {w : World} (hgd : o.guard = none) (s x : Operand)
    (ho : o.op = .call { callee := .builtin .append, args := #[s, x], argTypes := #[T, T] }) {base : Nat} {v : Value} {l : List Nat} (hown : ON k w base e v l) (hs : a.eval s = v)
    {n : Int} {g : Nat} (hx : a.eval x = .slice (some ⟨g, 0, none⟩) 1 1) (hgs : g = w.heap.size) (c : Nat) (hc : n = (c : Int)) (hlen : l.length + 1 ≤ 17592186044416) (hbase : base ≤ w.heap.size)
    (h : ∀ v' w', ON k w' base e v' (l ++ [c]) → w.grownBy w' v.ownBlock → (v'.ownBlock = v.ownBlock ∨ ∃ g, v'.ownBlock = some g ∧ w.heap.size ≤ g) → wpList Try.prog ops Q rest (a.put o.dst v') w') :
    wpList Try.prog ops Q (o :: rest) a (w.alloc (.cells #[.int k n] e)) := by
  obtain ⟨i0, hi0, hz0, hz1, hz2⟩ := info_parts hinfo
  subst hc hgs
  refine wpList_append_any _ hgd s x T ho base e i0 (.int k 0) 1 bytes ht hi0 hz0 hz1 hz2 rfl (by omega) v l.length (nums k l) hs (hown.alloc _) (w.heap.size + 1) _ 1 1
    [.int k c] hx (Reads.new_ w _ _ 1 1 rfl) (by intro u hu; simp at hu; subst hu; rfl) (by unfold maxLen; omega) (fit_small (by have := Nat.mul_le_mul_left (l.length + 1) hby; omega)) (by simp; omega) ?_
  intro v' w' hown' hg hat
  refine h v' w' ?_ ((World.grownBy_alloc w _ _).trans hg) ?_
  · unfold ON
    rw [nums_append, List.length_append]
    exact hown'
  · rcases hat with e | e
    · exact .inl e
    · exact .inr ⟨_, e, by simp⟩
theorem info_64 : (Try.prog.info? 23).map (fun i => (i.zero, i.size, i.bytes)) = some (some (.int .u64 0), 1, 8) := by kernel_rfl

def INrel (num : Int) (fs : List Fld) (w : World) (out i : Value) (wr : World) : Prop := ∃ (k : Nat) (xs : List Nat), i = .int .i64 (k : Int) ∧ IN num fs k xs ∧ ON .u64 wr w.heap.size 23 out xs ∧ Below w.heap.size w wr
def VSrel (l : List UInt8) (xs : List Nat) (g : Nat) (cs : Array Value) (w : World) (out p : Value) (wr : World) : Prop :=
  ∃ (q : Nat) (ys : List Nat), p = .int .i64 (q : Int) ∧ VS l ys q ∧ ON .u64 wr w.heap.size 23 out (xs ++ ys) ∧ Below w.heap.size w wr ∧ Blk wr g 40 cs

def IntsR (w : World) (r : Option (List Nat)) (e : Ending) (w' : World) : Prop := ∃ v, e = .returned (.tuple #[v, .int .i64 (match r with | none => 6 | some _ => 0)]) ∧ ON .u64 w' w.heap.size 23 v (r.getD []) ∧ Below w.heap.size w w'
theorem IntsR.bad {w w' : World} {r : Option (List Nat)} (h : r = none) (hb : Below w.heap.size w w') : IntsR w r (.returned (.tuple #[.slice none 0 0, .int .i64 6])) w' := by
  subst h; exact ⟨_, rfl, ON.nil _ _ _ _, hb⟩
theorem IntsR.good {w w' : World} {r : Option (List Nat)} {xs : List Nat} {v : Value} (h : r = some xs) (ho : ON .u64 w' w.heap.size 23 v xs) (hb : Below w.heap.size w w') : IntsR w r (.returned (.tuple #[v, .int .i64 0])) w' := by
  subst h; exact ⟨_, rfl, ho, hb⟩

set_option maxRecDepth 100000 in
set_option maxHeartbeats 1600000 in
theorem ints_any (A : Option Addr) (cap : Nat) (fs : List Fld) (num : Int) (w : World) (hm : cap ≤ maxLen) (hcap : fs.length ≤ cap) (hb : RF w w.heap.size A fs) (hbulk : bulkF fs + 1 ≤ 17592186044416) :
    Calls Try.prog 27 #[.slice A fs.length cap, .int .i64 num] w (IntsR w (ints num fs)) := by
  unfold maxLen at hm
  go_enter Try.func27, Try.ntmps27
  go_wp2
  go_loopw [6, 15] (fun out i wr => INrel num fs w out i wr) (fun _ i _ => fs.length - (intOf i).toNat)
  case atStart => exact ⟨0, [], rfl, IN.start _ _, ON.nil _ _ _ _, Below.refl _ _⟩
  case round =>
    obtain ⟨k, xs, rfl, hin, hown, hbel⟩ := hrel
    have hsz := hbel.size
    have hk := hin.1
    have hxl : xs.length ≤ bulkF fs := by have := hin.2.1; omega
    by_cases hlt : k < fs.length
    · obtain ⟨b, off, dv, rfl, hbb, hdv, a0', a1', a2', a3'⟩ := hb.at_ hlt
      have a0 := (hbel.cell (p := ⟨b, _, none⟩) hbb).trans a0'
      have a1 := (hbel.cell (p := ⟨b, _, none⟩) hbb).trans a1'
      have a2 := (hbel.cell (p := ⟨b, _, none⟩) hbb).trans a2'
      have a3 := (hbel.cell (p := ⟨b, _, none⟩) hbb).trans a3'
      clear a0' a1' a2' a3'
      have HB := Lib.hid (hin.bad hlt)
      have HS := Lib.hid (fun a => hin.step (a := a) hlt)
      obtain ⟨Ad, cd, rfl, hld, hmd, hrd⟩ := hdv
      have hdb : xs.length + fs[k].data.length + 1 ≤ bulkF fs := by
        have := hin.2.1
        rw [List.drop_eq_getElem_cons hlt] at this
        simp only [bulkF] at this
        omega
      clear hin
      generalize fs[k] = f at *
      obtain ⟨fnum, wire, x, data⟩ := f
      dsimp only at *
      by_cases hnum : fnum = num
      · subst hnum
        have hq : (fnum != fnum) = false := by simp
        by_cases hw0 : wire = 0
        · subst hw0
          have HV : Hid (ints1 fnum ⟨fnum, 0, x, data⟩ = some [x]) := by show _ = _; simp [ints1]
          go_wp2_with (at_builtin
                       go_must (refine append_num (by kernel_rfl) info_64 (Nat.le_refl _) rfl _ _ rfl (hown.alloc _) rfl rfl (by simp) x rfl (by omega) (by simp; omega) ?_; intro v2 w2 ho2 hg2 ha2))
          go_roundw
          case rel => exact ⟨k + 1, _, by go_num, HS.out _ HV.out (by simp), ho2, (hown.alloc _).grownB hg2 (by simp; omega) (Nat.le_refl _) (hbel.alloc hsz _)⟩
          case measure => simp [intOf]; omega
        · by_cases hw2 : wire = 2
          · subst hw2
            have HV : Hid (ints1 fnum ⟨fnum, 2, x, data⟩ = vs data) := by show _ = _; simp [ints1]
            go_wp2
            go_loopw [6, 9] (fun out p wr' => VSrel data xs wr.heap.size #[.int .i64 fnum, .int .i64 2, .int .u64 x, .slice Ad data.length cd] w out p wr') (fun _ p _ => data.length - (intOf p).toNat)
            case atStart => exact ⟨0, [], rfl, VS.start _, by rw [List.append_nil]; exact hown.alloc _, hbel.alloc hsz _, Blk.new _ _ _⟩
            case round =>
              clear hown
              obtain ⟨q, ys, rfl, hvs, hown, hbel1, hblk⟩ := hrel
              obtain ⟨g0, g1, g2, g3⟩ := blk4 hblk
              have hz1 := hbel1.size
              have hq1 := hvs.1
              have hq2 := hvs.2.1
              have hxy : (xs ++ ys).length ≤ bulkF fs := by rw [List.length_append]; omega
              have hr1 := (hrd.below hbel1)
              by_cases hend : q < data.length
              · have hr := hrd
                cases ht : rdv 0 (data.drop q) with
                | none =>
                  have HR := Lib.hid (rvar_none hq1 ht)
                  have HN := Lib.hid (hvs.none_ hend ht)
                  clear ht
                  go_wp2_with (go_at_call 15; refine (rdvar_at HR hld hmd hr1).mono ?_; rintro e w' ⟨rfl, rfl⟩)
                  go_ret2
                  exact IntsR.bad (HB.out (by rw [HV.out, HN.out])) hbel1
                | some r =>
                  obtain ⟨y, n⟩ := r
                  have HR := Lib.hid (rvar_some hq1 ht)
                  have HM := Lib.hid (hvs.more hend ht)
                  have hn := rdv_len _ _ _ _ ht
                  rw [List.length_drop] at hn
                  clear ht
                  go_wp2_with (first
                    | (go_at_call 15; refine (rdvar_at HR hld hmd hr1).mono ?_; rintro e w' ⟨rfl, rfl⟩)
                    | (at_builtin
                       go_must (refine append_num (by kernel_rfl) info_64 (Nat.le_refl _) rfl _ _ rfl hown rfl rfl rfl y rfl (by omega) (by omega) ?_; intro v2 w2 ho2 hg2 ha2)))
                  go_roundw
                  case rel => exact ⟨q + n, ys ++ [y], by go_num, HM.out, by rw [← List.append_assoc]; exact ho2, hown.grownB hg2 hz1 (Nat.le_refl _) hbel1, hblk.grown hg2 (own_blk_ne hown hblk (by decide)).symm⟩
                  case measure => simp [intOf]; omega
              · have HL := Lib.hid (hvs.last (by omega))
                go_wp2
                go_roundw
                case rel => exact ⟨k + 1, _, by go_num, HS.out ys (by rw [HV.out, HL.out]) (by show ys.length ≤ data.length + 1; omega), hown, hbel1⟩
                case measure => simp [intOf]; omega
          · have HV : Hid (ints1 fnum ⟨fnum, wire, x, data⟩ = none) := by show _ = _; simp [ints1, hw0, hw2]
            go_wp2
            go_ret2
            exact IntsR.bad (HB.out HV.out) (hbel.alloc hsz _)
      · have hq : (fnum != num) = true := by simpa using hnum
        have HV : Hid (ints1 num ⟨fnum, wire, x, data⟩ = some []) := by show _ = _; simp [ints1, hnum]
        go_wp2
        go_roundw
        case rel => exact ⟨k + 1, _, by go_num, HS.out [] HV.out (by simp), by rw [List.append_nil]; exact hown.alloc _, hbel.alloc hsz _⟩
        case measure => simp [intOf]; omega
    · have HL := Lib.hid (hin.last (by omega))
      go_wp2
      go_ret2
      exact IntsR.good HL.out hown hbel
end Go.Proofs.Ythhanpfcnaokpaa
