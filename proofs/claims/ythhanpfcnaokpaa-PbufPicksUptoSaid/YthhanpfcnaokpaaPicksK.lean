/- What PbufPicks's walk wants: contracts by values, and words for its loops that write. -/
import Derived.Test.YthhanpfcnaokpaaLast
import Derived.Test.YthhanpfcnaokpaaListsK
namespace Go.Proofs.Ythhanpfcnaokpaa
open Go.RowKit

theorem sameb_nn {B B' n n' cap cap' : Nat} {A A' : Option Addr} {l : List UInt8} {w : World} (ha : RB w B A l) (hb : RB w B' A' l) (hn : n = l.length) (hn' : n' = l.length) (hm : l.length ≤ maxLen) :
    Calls Try.prog 17 #[.slice A n cap, .slice A' n' cap'] w (SaysQ w true) := by
  subst hn hn'; exact sameb_eq ha hb hm
theorem same_nn {B B' n n' cap cap' : Nat} {A A' : Option Addr} {fs : List Fld} {w : World} (ha : RF w B A fs) (hb : RF w B' A' fs) (hn : n = fs.length) (hn' : n' = fs.length) (hm : fs.length ≤ maxLen) :
    Calls Try.prog 22 #[.slice A n cap, .slice A' n' cap'] w (SaysQ w true) := by
  subst hn hn'; exact same_eq B B' A A' cap cap' fs w ha hb hm
section
variable {A : Option Addr} {cap : Nat} {fs : List Fld} {num wire : Int} {w : World}
theorem all_at {gs : List Fld} (hs : sel num fs = gs) (hfl : fs.length + 1 ≤ 2900000000000) (hbulk : bulkF fs + 1 ≤ 17592186044416) (hb : RF w w.heap.size A fs) :
    Calls Try.prog 28 #[.slice A fs.length cap, .int .i64 num] w fun e w' => ∃ A' n c, e = .returned (.slice A' n c) ∧ Hid (n = gs.length) ∧ OF w' w.heap.size 40 (.slice A' n c) gs ∧ Below w.heap.size w w' := by
  refine (all_any A cap fs num w hfl hbulk hb).mono ?_
  rintro e w' ⟨v, rfl, ho, hbl⟩
  rw [hs] at ho
  obtain ⟨A', n, c, rfl, hn, -⟩ := ho.form2
  exact ⟨A', n, c, rfl, Lib.hid hn, ho, hbl⟩
theorem rall_at {gs : List Fld} (hs : sel num fs = gs) (hfl : fs.length + 1 ≤ 2900000000000) (hb : RF w w.heap.size A fs) :
    Calls Try.prog 33 #[.slice A fs.length cap, .int .i64 num] w fun e w' => ∃ A' n c, e = .returned (.slice A' n c) ∧ Hid (n = gs.length) ∧ RF w' w'.heap.size A' gs ∧ Below w.heap.size w w' := by
  refine (rall_any A cap fs num w hfl hb).mono ?_
  rintro e w' ⟨v, rfl, ho, hbl⟩
  rw [hs] at ho
  obtain ⟨A', n, c, rfl, hn, -, -, hr⟩ := ho.form hbl.size
  exact ⟨A', n, c, rfl, Lib.hid hn, hr, hbl⟩
theorem last_at {gs : List Fld} {f : Fld} {b : Bool} {er : Int} (hs : sel num fs = gs) (hr : lastF wire gs = (f, b, er)) (hfl : fs.length + 1 ≤ 2900000000000) (hbulk : bulkF fs + 1 ≤ 17592186044416) (hb : RF w w.heap.size A fs) :
    Calls Try.prog 29 #[.slice A fs.length cap, .int .i64 num, .int .i64 wire] w fun e w' => ∃ A' n c, e = .returned (.tuple #[.agg #[.int .i64 f.num, .int .i64 f.wire, .int .u64 (f.x : Int), .slice A' n c], .bool b, .int .i64 er]) ∧ Hid (n = f.data.length) ∧ OB w' w.heap.size (.slice A' n c) f.data ∧ Below w.heap.size w w' := by
  refine (last_any A cap fs num wire w hfl hbulk hb).mono ?_
  rintro e w' ⟨A', n, c, rfl, ho, hbl⟩
  rw [hs, hr] at *
  exact ⟨A', n, c, rfl, by obtain ⟨_, _, _, h1, h2, -⟩ := ho.form2; injection h1 with h1 h3 h4; rw [h3]; exact h2, ho, hbl⟩
theorem rlast_at {gs : List Fld} {f : Fld} {b : Bool} {er : Int} (hs : sel num fs = gs) (hr : lastF wire gs = (f, b, er)) (hfl : fs.length + 1 ≤ 2900000000000) (hb : RF w w.heap.size A fs) :
    Calls Try.prog 30 #[.slice A fs.length cap, .int .i64 num, .int .i64 wire] w fun e w' => ∃ A' n c, e = .returned (.tuple #[.agg #[.int .i64 f.num, .int .i64 f.wire, .int .u64 (f.x : Int), .slice A' n c], .bool b, .int .i64 er]) ∧ Hid (n = f.data.length) ∧ RB w' w'.heap.size A' f.data ∧ Below w.heap.size w w' := by
  refine (rlast_any A cap fs num wire w hfl hb).mono ?_
  rintro e w' ⟨A', n, c, rfl, ho, hbl⟩
  rw [hs, hr] at *
  obtain ⟨Ad, cd, h1, -, -, h2⟩ := ho
  injection h1 with h1 h3 h4
  exact ⟨A', n, c, rfl, Lib.hid h3, h1 ▸ h2, hbl⟩
/-- what Joined answers, as values -/
def JV (w : World) (l : List UInt8) (b : Bool) (er : Int) (e : Ending) (w' : World) : Prop :=
  ∃ A n c, e = .returned (.tuple #[.slice A n c, .bool b, .int .i64 er]) ∧ Hid (n = l.length) ∧ OB w' w.heap.size (.slice A n c) l ∧ Below w.heap.size w w'
def jnb (a : List Fld) : Bool := match jn a with | none => false | some _ => decide (0 < a.length)
def jne (a : List Fld) : Int := match jn a with | none => 6 | some _ => 0
theorem JR.v {gs : List Fld} {w' : World} {e : Ending} (h : JR w gs e w') : JV w ((jn gs).getD []) (jnb gs) (jne gs) e w' := by
  obtain ⟨v, b, er, rfl, ho, hbl, rfl, rfl⟩ := h
  obtain ⟨A, n, c, rfl, hn, -⟩ := ho.form2
  exact ⟨A, n, c, rfl, hn, ho, hbl⟩
theorem joined_at {gs : List Fld} {l : List UInt8} {b : Bool} {er : Int} (hs : sel num fs = gs) (hl : (jn gs).getD [] = l) (hb' : jnb gs = b) (he : jne gs = er) (hfl : fs.length + 1 ≤ 2900000000000) (hbulk : bulkF fs + 1 ≤ 17592186044416) (hb : RF w w.heap.size A fs) :
    Calls Try.prog 31 #[.slice A fs.length cap, .int .i64 num] w (JV w l b er) := by
  subst hs hl hb' he
  exact (joined_any A cap fs num w hfl hbulk hb).mono fun _ _ h => h.v
theorem rjoined_at {gs : List Fld} {l : List UInt8} {b : Bool} {er : Int} (hs : sel num fs = gs) (hl : (jn gs).getD [] = l) (hb' : jnb gs = b) (he : jne gs = er) (hfl : fs.length + 1 ≤ 2900000000000) (hbulk : bulkF fs + 1 ≤ 17592186044416) (hb : RF w w.heap.size A fs) :
    Calls Try.prog 32 #[.slice A fs.length cap, .int .i64 num] w (JV w l b er) := by
  subst hs hl hb' he
  exact (rjoined_any A cap fs num w hfl hbulk hb).mono fun _ _ h => h.v
end
theorem jn_len : ∀ {a : List Fld} {l : List UInt8}, jn a = some l → l.length ≤ bulkF a
  | [], l, h => by simp [jn] at h; subst h; simp
  | f :: r, l, h => by
    unfold jn at h
    split at h
    · cases hj : jn r with
      | none => rw [hj] at h; simp at h
      | some l' =>
        rw [hj] at h
        simp at h
        subst h
        have := jn_len hj
        simp only [bulkF, List.length_append]; omega
    · cases h
theorem jn_len' (a : List Fld) : ((jn a).getD []).length ≤ bulkF a := by
  cases h : jn a with
  | none => simp
  | some l => simpa using jn_len h
theorem lastF_len {wire : Int} {a : List Fld} {f : Fld} {b : Bool} {er : Int} (h : lastF wire a = (f, b, er)) : f.data.length ≤ bulkF a := by
  unfold lastF at h
  split at h
  · split at h
    · injection h with h1 h2; subst h1; simp [zf]
    · rename_i g hg
      injection h with h1 h2
      subst h1
      have hm := List.mem_of_getLast? hg
      obtain ⟨i, hi, e⟩ := List.getElem_of_mem hm
      have := data_bulk hi
      rw [e] at this
      omega
  · injection h with h1 h2; subst h1; simp [zf]
/-- the fields that come from All, to be written over -/
theorem LM.maybe {lo hi n c : Nat} {A : Option Addr} {W0 : World} {fs : List Fld} {w1 : World} (h1 : OF w1 lo 40 (.slice A n c) fs) (hz : w1.heap.size = hi) (hb : Below hi w1 W0) :
    ∃ g ds, (0 < fs.length → A = some ⟨g, 0, none⟩ ∧ LS lo hi g fs ds ∧ LM lo hi g W0 fs ds 0 W0) := by
  by_cases hn : 0 < fs.length
  · obtain ⟨g, cap, ds, e, h2, h3⟩ := LM.start hn h1 hz hb
    injection e with e1 e2 e3
    exact ⟨g, ds, fun _ => ⟨e1, h2, h3⟩⟩
  · exact ⟨0, [], fun h => absurd h hn⟩
theorem LM.skip {lo hi g i : Nat} {W0 w : World} {fs : List Fld} {ds : List Value} (h : LM lo hi g W0 fs ds i w) : LM lo hi g W0 fs ds (i + 1) w :=
  ⟨h.only, by obtain ⟨cur, h1, h2, h3⟩ := h.row; exact ⟨cur, h1, h2, fun j hj hij => h3 j hj (by omega)⟩, fun j hj hj' hij => h.dat j hj hj' (by omega)⟩
/-- a row of bytes of the call's own, to be written over -/
def CM (lo hi : Nat) (W0 : World) (v : Value) (n : Nat) (w : World) : Prop := Only lo hi W0 w ∧ ∃ l : List UInt8, l.length = n ∧ OB w lo v l
theorem CM.set {lo hi g n c : Nat} {W0 w : World} (h : CM lo hi W0 (.slice (some ⟨g, 0, none⟩) n c) n w) (hg : lo ≤ g ∧ g < hi) (k : Nat) (x : UInt8) :
    CM lo hi W0 (.slice (some ⟨g, 0, none⟩) n c) n (w.setCell ⟨g, k, none⟩ (.int .u8 (x.toNat : Int))) := by
  obtain ⟨h1, l, h2, h3⟩ := h
  exact ⟨h1.setCell ⟨hg.1, .inl hg.2⟩ _, l.set k x, by rw [List.length_set]; exact h2, h3.set k x⟩
theorem CM.drew {lo hi n : Nat} {W0 w : World} {v : Value} (h : CM lo hi W0 v n w) : CM lo hi W0 v n w.drew := ⟨h.1.drew, h.2⟩
theorem CM.drewN {lo hi n : Nat} {W0 w : World} {v : Value} (h : CM lo hi W0 v n w) (k : Nat) : CM lo hi W0 v n (w.drewN k) := ⟨h.1.drewN k, h.2⟩
theorem OB.off {lo hi base : Nat} {W0 w : World} {v : Value} {l : List UInt8} (ho : OB W0 base v l) (h : Only lo hi W0 w) (hb : ∀ k, v.ownBlock = some k → k < lo ∨ hi ≤ k) : OB w base v l := by
  refine ⟨ho.1, ?_⟩
  rcases ho.2 with ho2 | ⟨g, cap, cur, rfl, h2, h3, h4⟩
  · exact .inl ho2
  · refine .inr ⟨g, cap, cur, rfl, h2, ?_, h4⟩
    rw [h.block g (Array.getElem?_eq_some_iff.1 h3).1 (hb g rfl)]
    exact h3
theorem OB.rb {w : World} {base n c : Nat} {A : Option Addr} {l : List UInt8} (h : OB w base (.slice A n c) l) : RB w w.heap.size A l := by
  obtain ⟨A', c', e, -, -, hr⟩ := h.form
  injection e with e1 e2 e3
  rw [e1]; exact hr
theorem OF.rf {w : World} {base n c : Nat} {e : TypeId} {A : Option Addr} {fs : List Fld} (h : OF w base e (.slice A n c) fs) : RF w w.heap.size A fs := by
  obtain ⟨A', c', e, -, -, hr⟩ := h.form
  injection e with e1 e2 e3
  rw [e1]; exact hr
end Go.Proofs.Ythhanpfcnaokpaa
