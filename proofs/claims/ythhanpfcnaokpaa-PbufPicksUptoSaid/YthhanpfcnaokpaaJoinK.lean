/- What PbufJoins needs beside: appends of many fields, and bounds. -/
import Derived.Test.YthhanpfcnaokpaaInts
import Derived.Test.YthhanpfcnaokpaaBacks
import Derived.Test.YthhanpfcnaokpaaJoinP
namespace Go.Proofs.Ythhanpfcnaokpaa
open Go.RowKit

theorem wrF_ge {f : Fld} (h : mayF f = true) : f.data.length + 1 ≤ (wrF f).length := by
  obtain ⟨m, -, -, -, hc⟩ := mayF_cases h
  rcases hc with ⟨-, hd⟩ | ⟨-, hd⟩ | ⟨-, hd, -⟩ | ⟨hw, -⟩
  · rw [hd]; have := wrF_pos f; simpa using this
  · rw [hd]; have := wrF_pos f; simpa using this
  · rw [hd]; have := wrF_pos f; simpa using this
  · have := (vi_len f.data.length).2
    simp only [wrF, hw]
    simp
    omega
theorem bulk_wr {fs : List Fld} (h : ∀ f ∈ fs, mayF f = true) : bulkF fs ≤ (wr fs).length := by
  induction fs with
  | nil => simp [bulkF]
  | cons f fs ih =>
    have h1 := wrF_ge (h f (by simp))
    have h2 := ih fun g hg => h g (by simp [hg])
    simp only [bulkF, wr, List.flatMap_cons, List.length_append] at h2 ⊢
    omega
theorem bulk_read {l : List UInt8} {fs : List Fld} (hl : l.length ≤ 4194304) (h : readE l = (fs, 0)) : bulkF fs ≤ 4194304 := by
  obtain ⟨hw, hle, -⟩ := write_read h
  have hall : ∀ f ∈ fs, mayF f = true := by
    unfold writeE at hw
    split at hw
    · rename_i ha; exact List.all_eq_true.1 ha
    · simp at hw
  have := bulk_wr hall
  omega
theorem read_cases {l : List UInt8} {fs : List Fld} {er : Int} (hl : l.length ≤ 4194304) (h : readE l = (fs, er)) : er = 0 ∨ er = 6 ∧ fs = [] := by
  unfold readE at h
  rw [if_neg (by omega)] at h
  split at h <;> simp only [Prod.mk.injEq] at h
  · exact .inr ⟨h.2.symm, h.1.symm⟩
  · exact .inl h.2.symm

theorem fcells_append : ∀ (fs : List Fld) (ds : List Value) (gs : List Fld) (es : List Value), ds.length = fs.length → fcells (fs ++ gs) (ds ++ es) = fcells fs ds ++ fcells gs es
  | [], [], _, _, _ => by simp [fcells]
  | f :: fs, d :: ds, gs, es, h => by
    have := fcells_append fs ds gs es (by simpa using h)
    simp [fcells, this]
  | [], _ :: _, _, _, h => by simp at h
  | _ :: _, [], _, _, h => by simp at h
theorem fcells_one : ∀ (fs : List Fld) (ds : List Value), (∀ d ∈ ds, d.oneCell' = true) → ∀ u ∈ fcells fs ds, u.oneCell' = true
  | [], _, _, u, hu => by simp [fcells] at hu
  | f :: fs, [], _, u, hu => by simp [fcells] at hu
  | f :: fs, d :: ds, h, u, hu => by
    simp only [fcells, fcell, List.cons_append, List.nil_append, List.mem_cons] at hu
    rcases hu with rfl | rfl | rfl | rfl | hu
    · rfl
    · rfl
    · rfl
    · exact h _ (by simp)
    · exact fcells_one fs ds (fun d hd => h d (by simp [hd])) u hu

theorem OFD.made {D : Value → List UInt8 → Prop} (w : World) (base : Nat) (e : TypeId) (h : base ≤ w.heap.size) : OFD D (w.alloc (.cells #[] e)) base e (.slice (some ⟨w.heap.size, 0, none⟩) 0 0) [] :=
  ⟨[], rfl, World.ownsRow_made w #[] 0 h (by unfold maxLen; omega) rfl, fun _ h => absurd h (Nat.not_lt_zero _)⟩

theorem append_fields {P : Program} {ops : Array Oper} {rest : List Oper} {o : Oper} {a : Act} {Q : Exit → Act → World → Prop} {w : World} {B : Nat}
    (T e : TypeId) (ht : P.underlying T = some (.slice e)) (hinfo : (P.info? e).map (fun i => (i.zero, i.size, i.bytes)) = some (some (.agg #[.int .i64 0, .int .i64 0, .int .u64 0, .slice none 0 0]), 4, 48))
    (hgd : o.guard = none) (s x : Operand)
    (ho : o.op = .call { callee := .builtin .append, args := #[s, x], argTypes := #[T, T] }) {base : Nat} {v : Value} {fs : List Fld} (hown : OFR B w base e v fs) (hs : a.eval s = v)
    {A : Option Addr} {n cap : Nat} (gs : List Fld) (hx : a.eval x = .slice A n cap) (hn : n = gs.length) (hr : RF w B A gs)
    (hlen : fs.length + gs.length ≤ 2900000000000) (hbase : base ≤ w.heap.size) (hB : B ≤ base)
    (h : ∀ v' w', OFR B w' base e v' (fs ++ gs) → w.grownBy w' v.ownBlock → Below B w w' → wpList P ops Q rest (a.put o.dst v') w') :
    wpList P ops Q (o :: rest) a w := by
  obtain ⟨i0, hi0, hz0, hz1, hz2⟩ := info_parts hinfo
  subst hn
  obtain ⟨ds, h1, h2, h3⟩ := hown
  obtain ⟨es, k1, k2, k3⟩ := hr
  refine wpList_append_any _ hgd s x T ho base e i0 _ 4 48 ht hi0 hz0 hz1 hz2 rfl (by omega) v fs.length (fcells fs ds) hs h2 B A gs.length cap
    (fcells gs es) hx k2 (fcells_one gs es ?_) (by unfold maxLen; omega) (fit_small (by omega)) hbase ?_
  · intro d hd
    obtain ⟨i, hi, rfl⟩ := List.getElem_of_mem hd
    obtain ⟨A', c', he, -⟩ := k3 i (by omega) hi
    rw [he]; rfl
  · intro v' w' hown' hg hat
    have hbl : Below B w w' := (Below.refl B w).grown hg (by omega) (fun k hk => by have := (World.ownsRow.lt h2 k hk).1; omega)
    refine h v' w' ⟨ds ++ es, by simp [h1, k1], ?_, ?_⟩ hg hbl
    · rw [fcells_append fs ds gs es h1, List.length_append]
      exact hown'
    · intro i hi hi'
      by_cases hlt : i < fs.length
      · rw [List.getElem_append_left hlt, List.getElem_append_left (by omega)]
        exact (h3 i hlt (by omega)).below hbl
      · have hi2 : i - fs.length < gs.length := by rw [List.length_append] at hi; omega
        have := (k3 (i - fs.length) hi2 (by omega)).below hbl
        rw [List.getElem_append_right (by omega), List.getElem_append_right (by omega)]
        simpa [h1] using this
theorem OFR.form {B : Nat} {w : World} {base : Nat} {e : TypeId} {v : Value} {fs : List Fld} (h : OFR B w base e v fs) (hB : B ≤ w.heap.size) : ∃ A n cap, v = .slice A n cap ∧ n = fs.length ∧ n ≤ cap ∧ cap ≤ maxLen ∧ RF w w.heap.size A fs := by
  obtain ⟨A, cap, h1, h2, h3, h4⟩ := OFD.form h fun _ _ h => DV.more h hB
  exact ⟨A, _, cap, h1, rfl, h2, h3, h4⟩
theorem OF.form2 {w : World} {base : Nat} {e : TypeId} {v : Value} {fs : List Fld} (h : OF w base e v fs) : ∃ A n cap, v = .slice A n cap ∧ n = fs.length ∧ n ≤ cap ∧ cap ≤ maxLen ∧ RF w w.heap.size A fs := by
  obtain ⟨A, cap, h1, h2, h3, h4⟩ := h.form
  exact ⟨A, _, cap, h1, rfl, h2, h3, h4⟩
theorem ints_at {A : Option Addr} {n cap : Nat} {w : World} {num : Int} (fs : List Fld) {r : Option (List Nat)} (hr : ints num fs = r) (hn : n = fs.length) (hcap : n ≤ cap) (hm : cap ≤ maxLen) (hb : RF w w.heap.size A fs) (hbulk : bulkF fs + 1 ≤ 17592186044416) :
    Calls Try.prog 27 #[.slice A n cap, .int .i64 num] w (IntsR w r) := by
  subst hn hr
  exact ints_any _ _ _ _ _ hm hcap hb hbulk
theorem ints_no {A : Option Addr} {n cap : Nat} {w : World} {num : Int} (fs : List Fld) (hr : Hid (ints num fs = none)) (hn : n = fs.length) (hcap : n ≤ cap) (hm : cap ≤ maxLen) (hb : RF w w.heap.size A fs) (hbulk : bulkF fs + 1 ≤ 17592186044416) :
    Calls Try.prog 27 #[.slice A n cap, .int .i64 num] w fun e w' => (∃ A c, e = .returned (.tuple #[.slice A 0 c, .int .i64 6])) ∧ Below w.heap.size w w' := by
  refine (ints_at fs hr.out hn hcap hm hb hbulk).mono ?_
  rintro e w' ⟨v, rfl, ho, hbl⟩
  obtain ⟨A', n', c', rfl, hn', -⟩ := ho.form
  simp only [Option.getD_none, List.length_nil] at hn'
  subst hn'
  exact ⟨⟨_, _, rfl⟩, hbl⟩
theorem ints_yes {A : Option Addr} {n cap : Nat} {w : World} {num : Int} (fs : List Fld) {xs : List Nat} (hr : Hid (ints num fs = some xs)) (hn : n = fs.length) (hcap : n ≤ cap) (hm : cap ≤ maxLen) (hb : RF w w.heap.size A fs) (hbulk : bulkF fs + 1 ≤ 17592186044416) :
    Calls Try.prog 27 #[.slice A n cap, .int .i64 num] w fun e w' => (∃ A c, e = .returned (.tuple #[.slice A xs.length c, .int .i64 0])) ∧ Below w.heap.size w w' := by
  refine (ints_at fs hr.out hn hcap hm hb hbulk).mono ?_
  rintro e w' ⟨v, rfl, ho, hbl⟩
  obtain ⟨A', n', c', rfl, hn', -⟩ := ho.form
  subst hn'
  exact ⟨⟨_, _, rfl⟩, hbl⟩
def IntsK (num : Int) (fs : List Fld) (n : Nat) (h : Int) : Prop := (ints num fs = none ∧ n = 0 ∧ h = 6) ∨ ∃ xs, ints num fs = some xs ∧ n = xs.length ∧ h = 0
theorem ints_both {A : Option Addr} {n cap : Nat} {w : World} (fs : List Fld) (num : Int) (hn : n = fs.length) (hcap : n ≤ cap) (hm : cap ≤ maxLen) (hb : RF w w.heap.size A fs) (hbulk : bulkF fs + 1 ≤ 17592186044416) :
    Calls Try.prog 27 #[.slice A n cap, .int .i64 num] w fun e w' => (∃ A m c h, e = .returned (.tuple #[.slice A m c, .int .i64 h]) ∧ Hid (IntsK num fs m h)) ∧ Below w.heap.size w w' := by
  refine (ints_at fs rfl hn hcap hm hb hbulk).mono ?_
  rintro e w' ⟨v, rfl, ho, hbl⟩
  obtain ⟨A', n', c', rfl, hn', -⟩ := ho.form
  refine ⟨⟨_, _, _, _, rfl, Lib.hid ?_⟩, hbl⟩
  cases hr : ints num fs with
  | none => rw [hr] at hn'; exact .inl ⟨hr, by simpa using hn', rfl⟩
  | some xs => rw [hr] at hn'; exact .inr ⟨xs, hr, by simpa using hn', rfl⟩
theorem ints_three {num : Int} {fs gs : List Fld} {n m k : Nat} {a b c : Int} (h0 : Hid (IntsK num fs n a)) (h1 : Hid (IntsK num gs m b)) (h2 : Hid (IntsK num (fs ++ gs) k c)) (hf : bulkF fs ≤ 17592186044416) (hg : bulkF gs ≤ 17592186044416) :
    (a = 6 ∧ b = 6 ∧ c = 6) ∨ (a = 6 ∧ b = 0 ∧ c = 6) ∨ (a = 0 ∧ b = 6 ∧ c = 6) ∨ (a = 0 ∧ b = 0 ∧ c = 0 ∧ IntKind.i64.wrap ((n : Int) + (m : Int)) = (k : Int)) := by
  have hz := ints_append num fs gs
  rcases h0.out with ⟨e0, -, rfl⟩ | ⟨x, e0, rfl, rfl⟩ <;> rcases h1.out with ⟨e1, -, rfl⟩ | ⟨y, e1, rfl, rfl⟩ <;> rcases h2.out with ⟨e2, -, rfl⟩ | ⟨z, e2, rfl, rfl⟩ <;>
    rw [e0] at hz <;> simp [e1, e2] at hz ⊢
  have hxl := ints_len e0
  have hyl := ints_len e1
  subst hz
  rw [List.length_append, IntWalk.i64_in _ (by omega)]
  omega
end Go.Proofs.Ythhanpfcnaokpaa
