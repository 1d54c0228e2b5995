/- How a model, dims, bytes that came in are opened into data. -/
import Derived.Test.YtlhpmlknmgocoaaGreatOnE
import Derived.Deep.Slices
import Derived.ChangeSame
namespace Go.Proofs.YtlhpmlknmgocoaaGreat
set_option linter.unusedSimpArgs false
set_option linter.unusedVariables false
open Go.ChangeShapes Go.WideShapes Go.ChangeAt Go.RowKit Go.Deep

/-- whatever comes in at the type t is data of the kind f, in n cells -/
def Opens (t : TypeId) (n : Nat) {α : Type} (f : α → List Dat) : Prop :=
  ∀ {H : Type} {enc : TypeId × Value → H} {W : World} {base : Nat} {spare : Nat → Bool} {held : Bool} {fuel : Nat} {cs : List Value} {x : DataW H × List MemPlace}, DataW.trod enc Tryz.prog W base spare held fuel t cs = some x →
    (∀ k ∈ x.1.weights Tryz.prog t, k ≤ reachBytes) → (∀ b, spare b = true) → ∃ a : α, cs.length = n ∧ HL W (fun _ => True) (f a) cs
theorem i64_of {n : Int} (h : (Lit.int .i64 n).wf = true) : ∃ x : Int64, x.toInt = n := by
  have hb := bounds_i64 h
  exact ⟨Int64.ofInt n, Int64.toInt_ofInt_of_le (by omega) (by omega)⟩
theorem opens_i64 {t : TypeId} (ht : Tryz.prog.underlying t = some (.int .i64)) : Opens t 1 (fun x : Int64 => [lfI x]) := by
  intro H enc W base spare held fuel cs x h _ _
  obtain ⟨n, rfl, -, hw⟩ := DataW.trod_int ht h
  obtain ⟨y, rfl⟩ := i64_of hw
  exact ⟨y, rfl, .cons (.leaf _) .nil⟩
theorem opens_u32 {t : TypeId} (ht : Tryz.prog.underlying t = some (.int .u32)) : Opens t 1 (fun x : UInt32 => [.leaf (.int .u32 (x.toNat : Int))]) := by
  intro H enc W base spare held fuel cs x h _ _
  obtain ⟨n, rfl, -, hw⟩ := DataW.trod_int ht h
  have hb := bounds_u32 hw
  refine ⟨UInt32.ofNat n.toNat, rfl, .cons ?_ .nil⟩
  rw [show ((UInt32.ofNat n.toNat).toNat : Int) = n by simp; omega]
  exact .leaf _
theorem opens_bool {t : TypeId} (ht : Tryz.prog.underlying t = some .bool) : Opens t 1 (fun x : Bool => [.leaf (.bool x)]) := by
  intro H enc W base spare held fuel cs x h _ _
  obtain ⟨b, rfl, -⟩ := DataW.trod_bool ht h
  exact ⟨b, rfl, .cons (.leaf _) .nil⟩
theorem opens_str {t : TypeId} (ht : Tryz.prog.underlying t = some .string) : Opens t 1 (fun x : List UInt8 => [lfS x]) := by
  intro H enc W base spare held fuel cs x h _ _
  obtain ⟨s, rfl, -⟩ := DataW.trod_string ht h
  exact ⟨s.data.toList, rfl, .cons (.leaf _) .nil⟩
theorem HL.flat {W : World} {S : Nat → Prop} {α : Type} {f : α → List Dat} : ∀ (xs : List α) (css : List (List Value)), css.length = xs.length → (∀ i (h : i < xs.length) (h' : i < css.length), HL W S (f xs[i]) css[i]) → HL W S (xs.flatMap f) css.flatten
  | [], [], _, _ => .nil
  | x :: xs, c :: css, hl, h => by
    rw [List.flatMap_cons, List.flatten_cons]
    exact HL.app (h 0 (by simp) (by simp)) (HL.flat xs css (by simpa using hl) fun i h1 h2 => h (i + 1) (by simpa using h1) (by simpa using h2))
  | [], _ :: _, hl, _ => by simp at hl
  | _ :: _, [], hl, _ => by simp at hl
theorem flat_at {n : Nat} : ∀ (css : List (List Value)), (∀ c ∈ css, c.length = n) → ∀ j u, css.flatten[j]? = some u → ∃ (i : Nat) (h : i < css.length) (k : Nat), j = i * n + k ∧ k < n ∧ css[i][k]? = some u
  | [], _, j, u, h => by simp at h
  | c :: css, hc, j, u, h => by
    have hcl := hc c (by simp)
    rw [List.flatten_cons] at h
    by_cases hj : j < c.length
    · rw [List.getElem?_append_left hj] at h
      exact ⟨0, by simp, j, by omega, by omega, by simpa using h⟩
    · rw [List.getElem?_append_right (by omega)] at h
      obtain ⟨i, hi, k, e, hk, hu⟩ := flat_at css (fun c hc' => hc c (by simp [hc'])) _ _ h
      exact ⟨i + 1, by simp; omega, k, by rw [Nat.add_mul]; omega, hk, by simpa using hu⟩
theorem opens_slice {t e : TypeId} {n by1 : Nat} {α : Type} {f : α → List Dat} (ht : Tryz.prog.underlying t = some (.slice e)) (he : Opens e n f) (hn : 0 < n) (hf : ∀ a, (f a).length = n) (hC : Tryz.prog.cellsOf e = n) (hB : Tryz.prog.bytesOf e = by1) (hb1 : 0 < by1) :
    Opens t 1 (fun xs : List α => [.row n (xs.flatMap f)]) := by
  intro H enc W base spare held fuel cs x h hw hs
  rcases open_slice ht h with ⟨rfl, -⟩ | ⟨a, len, cap, m, n', D, Pl, rfl, hb, hl, hm, hmm, hx, hi⟩
  · exact ⟨[], rfl, .cons (Held.nil _ _ _ _ _ (by unfold maxLen; omega)) .nil⟩
  · rw [hs a.block, if_pos rfl] at hmm
    subst hmm
    have hd : x.1 = .slice ((List.range len).map D) ((List.range (m - len)).map fun j => D (len + j)) := by rw [hx]
    have hrb : reachBytes = 140737488351232 := rfl
    have hsz := hw (m * by1) (by
      rw [hd]
      simp only [DataW.weights, ht, hB, List.length_map, List.length_range]
      rw [show len + (m - len) = m by omega]
      exact List.mem_cons_self)
    have hml : m ≤ m * by1 := Nat.le_mul_of_pos_right _ hb1
    have hel : ∀ i, i < len → ∃ q : α × List Value, q.2.length = n ∧ HL W (fun _ => True) (f q.1) q.2 ∧ ∀ k u, q.2[k]? = some u → W.cell? (a.add (i * n + k)) = some u := by
      intro i hil
      obtain ⟨cs', hc, ht'⟩ := hi i (by omega)
      rw [hC] at hc
      obtain ⟨_, hcl, hat⟩ := World.cells?_some hc
      have hDm : D i ∈ (List.range len).map D := List.mem_map.2 ⟨i, List.mem_range.2 hil, rfl⟩
      obtain ⟨y, hy, hh⟩ := he ht' (fun k hk => hw k (by
        rw [hd]
        simp only [DataW.weights, ht]
        exact List.mem_cons_of_mem _ (List.mem_append_left _ (mem_weightsAll hDm hk)))) hs
      refine ⟨(y, cs'), hcl, hh, fun k u hk => ?_⟩
      have hkl : k < n := by
        have := (List.getElem?_eq_some_iff.1 hk).1
        dsimp only at this
        omega
      rw [← Go.Deep.add_add, hat k hkl]
      exact hk
    obtain ⟨qs, hql, hq⟩ := exists_list len hel
    have hlen2 : (qs.map (·.2)).length = (qs.map (·.1)).length := by simp
    have HL2 : HL W (fun _ => True) ((qs.map (·.1)).flatMap f) (qs.map (·.2)).flatten := HL.flat _ _ hlen2 fun i h h' => by
      simp only [List.getElem_map]
      exact (hq i (by simpa using h)).2.1
    have hfl : ∀ ys : List α, (ys.flatMap f).length = ys.length * n := by
      intro ys
      induction ys with
      | nil => simp
      | cons y ys ih => rw [List.flatMap_cons, List.length_append, hf, ih, List.length_cons, Nat.add_mul]; omega
    refine ⟨qs.map (·.1), rfl, .cons ?_ .nil⟩
    refine .row n _ (some a) len m (qs.map (·.2)).flatten (by rw [hfl]; simp [hql]) HL2.len hl hm (by omega) (fun _ => ⟨a, rfl, trivial, fun j u hj => ?_⟩) HL2.get
    obtain ⟨i, hi', k, rfl, hk, hu⟩ := flat_at (n := n) _ (fun c hc => by
      obtain ⟨q, hq', rfl⟩ := List.mem_map.1 hc
      obtain ⟨i, hi', rfl⟩ := List.getElem_of_mem hq'
      exact (hq i hi').1) _ _ hj
    simp only [List.getElem_map] at hu
    exact (hq i (by simpa using hi')).2.2 k u hu
theorem Opens.leaves {t : TypeId} {α : Type} {D : α → Dat} (h : Opens t 1 (fun xs : List α => [.row 1 (xs.flatMap fun x => [D x])])) : Opens t 1 (fun xs : List α => [.row 1 (xs.map D)]) := by
  intro H enc W base spare held fuel cs x h1 h2 h3
  obtain ⟨a, e, hh⟩ := h h1 h2 h3
  refine ⟨a, e, ?_⟩
  dsimp only at hh ⊢
  have : ∀ ys : List α, (ys.flatMap fun x => [D x]) = ys.map D := fun ys => by induction ys with
    | nil => rfl
    | cons y ys ih => simp [ih]
  rw [this] at hh
  exact hh
theorem o_int : Opens 3 1 (fun x : Int64 => [lfI x]) := opens_i64 Tryz.underlying3
theorem o_i64 : Opens 2 1 (fun x : Int64 => [lfI x]) := opens_i64 Tryz.underlying2
theorem o_u32 : Opens 96 1 (fun x : UInt32 => [.leaf (.int .u32 (x.toNat : Int))]) := opens_u32 Tryz.underlying96
theorem o_bool : Opens 4 1 (fun x : Bool => [.leaf (.bool x)]) := opens_bool Tryz.underlying4
theorem o_str : Opens 9 1 (fun x : List UInt8 => [lfS x]) := opens_str Tryz.underlying9
theorem o_ints : Opens 35 1 (fun l : List Int64 => [datI l]) := Opens.leaves (D := lfI) (opens_slice (by1 := 8) Tryz.underlying35 o_int (by omega) (fun _ => rfl) (by kernel_rfl) (by kernel_rfl) (by omega))
theorem o_i64s : Opens 52 1 (fun l : List Int64 => [datI l]) := Opens.leaves (D := lfI) (opens_slice (by1 := 8) Tryz.underlying52 o_i64 (by omega) (fun _ => rfl) (by kernel_rfl) (by kernel_rfl) (by omega))
theorem o_u32s : Opens 51 1 (fun l : List UInt32 => [datF l]) := Opens.leaves (D := fun x : UInt32 => .leaf (.int .u32 (x.toNat : Int))) (opens_slice (by1 := 4) Tryz.underlying51 o_u32 (by omega) (fun _ => rfl) (by kernel_rfl) (by kernel_rfl) (by omega))
theorem o_bools : Opens 53 1 (fun l : List Bool => [datO l]) := Opens.leaves (D := fun x : Bool => .leaf (.bool x)) (opens_slice (by1 := 1) Tryz.underlying53 o_bool (by omega) (fun _ => rfl) (by kernel_rfl) (by kernel_rfl) (by omega))
theorem o_strs : Opens 45 1 (fun l : List (List UInt8) => [datS l]) := Opens.leaves (D := lfS) (opens_slice (by1 := 16) Tryz.underlying45 o_str (by omega) (fun _ => rfl) (by kernel_rfl) (by kernel_rfl) (by omega))
set_option maxRecDepth 100000 in
theorem o_ten : Opens 55 5 datT := by
  intro H enc W base spare held fuel cs x h hw hs
  obtain ⟨ys, n', -, hx, hl, hyl, hf⟩ := DataW.trod_struct Tryz.underlying55 h
  have hl' : cs.length = 5 := by rw [hl]; kernel_rfl
  have hd : x.1 = .agg (ys.map (·.1)) := by rw [hx]
  match cs, hl', ys, hyl, hd, hf with
  | [c0, c1, c2, c3, c4], _, [z0, z1, z2, z3, z4], _, hd, hf =>
    have hww : ∀ k ∈ DataW.weightsEach Tryz.prog [3, 35, 51, 52, 53] [z0.1, z1.1, z2.1, z3.1, z4.1], k ≤ reachBytes := fun k hk => hw k (by
      rw [hd]
      simp only [DataW.weights, Tryz.underlying55]
      exact hk)
    have t0 : DataW.trod enc Tryz.prog W base spare held n' 3 [c0] = some z0 := hf 0 _ rfl
    obtain ⟨x0, -, h0⟩ := o_int t0 (fun k hk => hww k (by simp [DataW.weightsEach, hk])) hs
    have t1 : DataW.trod enc Tryz.prog W base spare held n' 35 [c1] = some z1 := hf 1 _ rfl
    obtain ⟨x1, -, h1⟩ := o_ints t1 (fun k hk => hww k (by simp [DataW.weightsEach, hk])) hs
    have t2 : DataW.trod enc Tryz.prog W base spare held n' 51 [c2] = some z2 := hf 2 _ rfl
    obtain ⟨x2, -, h2⟩ := o_u32s t2 (fun k hk => hww k (by simp [DataW.weightsEach, hk])) hs
    have t3 : DataW.trod enc Tryz.prog W base spare held n' 52 [c3] = some z3 := hf 3 _ rfl
    obtain ⟨x3, -, h3⟩ := o_i64s t3 (fun k hk => hww k (by simp [DataW.weightsEach, hk])) hs
    have t4 : DataW.trod enc Tryz.prog W base spare held n' 53 [c4] = some z4 := hf 4 _ rfl
    obtain ⟨x4, -, h4⟩ := o_bools t4 (fun k hk => hww k (by simp [DataW.weightsEach, hk])) hs
    exact ⟨⟨x0, x1, x2, x3, x4⟩, rfl, HL.app h0 (HL.app h1 (HL.app h2 (HL.app h3 (h4))))⟩
set_option maxRecDepth 100000 in
theorem o_val : Opens 37 3 datV := by
  intro H enc W base spare held fuel cs x h hw hs
  obtain ⟨ys, n', -, hx, hl, hyl, hf⟩ := DataW.trod_struct Tryz.underlying37 h
  have hl' : cs.length = 3 := by rw [hl]; kernel_rfl
  have hd : x.1 = .agg (ys.map (·.1)) := by rw [hx]
  match cs, hl', ys, hyl, hd, hf with
  | [c0, c1, c2], _, [z0, z1, z2], _, hd, hf =>
    have hww : ∀ k ∈ DataW.weightsEach Tryz.prog [9, 3, 35] [z0.1, z1.1, z2.1], k ≤ reachBytes := fun k hk => hw k (by
      rw [hd]
      simp only [DataW.weights, Tryz.underlying37]
      exact hk)
    have t0 : DataW.trod enc Tryz.prog W base spare held n' 9 [c0] = some z0 := hf 0 _ rfl
    obtain ⟨x0, -, h0⟩ := o_str t0 (fun k hk => hww k (by simp [DataW.weightsEach, hk])) hs
    have t1 : DataW.trod enc Tryz.prog W base spare held n' 3 [c1] = some z1 := hf 1 _ rfl
    obtain ⟨x1, -, h1⟩ := o_int t1 (fun k hk => hww k (by simp [DataW.weightsEach, hk])) hs
    have t2 : DataW.trod enc Tryz.prog W base spare held n' 35 [c2] = some z2 := hf 2 _ rfl
    obtain ⟨x2, -, h2⟩ := o_ints t2 (fun k hk => hww k (by simp [DataW.weightsEach, hk])) hs
    exact ⟨⟨x0, x1, x2⟩, rfl, HL.app h0 (HL.app h1 (h2))⟩
set_option maxRecDepth 100000 in
theorem o_att : Opens 98 12 datA := by
  intro H enc W base spare held fuel cs x h hw hs
  obtain ⟨ys, n', -, hx, hl, hyl, hf⟩ := DataW.trod_struct Tryz.underlying98 h
  have hl' : cs.length = 12 := by rw [hl]; kernel_rfl
  have hd : x.1 = .agg (ys.map (·.1)) := by rw [hx]
  match cs, hl', ys, hyl, hd, hf with
  | [c0, c1, c2, c3, c4, c5, c6, c7, c8, c9, c10, c11], _, [z0, z1, z2, z3, z4, z5, z6, z7], _, hd, hf =>
    have hww : ∀ k ∈ DataW.weightsEach Tryz.prog [9, 3, 96, 2, 9, 55, 51, 52] [z0.1, z1.1, z2.1, z3.1, z4.1, z5.1, z6.1, z7.1], k ≤ reachBytes := fun k hk => hw k (by
      rw [hd]
      simp only [DataW.weights, Tryz.underlying98]
      exact hk)
    have t0 : DataW.trod enc Tryz.prog W base spare held n' 9 [c0] = some z0 := hf 0 _ rfl
    obtain ⟨x0, -, h0⟩ := o_str t0 (fun k hk => hww k (by simp [DataW.weightsEach, hk])) hs
    have t1 : DataW.trod enc Tryz.prog W base spare held n' 3 [c1] = some z1 := hf 1 _ rfl
    obtain ⟨x1, -, h1⟩ := o_int t1 (fun k hk => hww k (by simp [DataW.weightsEach, hk])) hs
    have t2 : DataW.trod enc Tryz.prog W base spare held n' 96 [c2] = some z2 := hf 2 _ rfl
    obtain ⟨x2, -, h2⟩ := o_u32 t2 (fun k hk => hww k (by simp [DataW.weightsEach, hk])) hs
    have t3 : DataW.trod enc Tryz.prog W base spare held n' 2 [c3] = some z3 := hf 3 _ rfl
    obtain ⟨x3, -, h3⟩ := o_i64 t3 (fun k hk => hww k (by simp [DataW.weightsEach, hk])) hs
    have t4 : DataW.trod enc Tryz.prog W base spare held n' 9 [c4] = some z4 := hf 4 _ rfl
    obtain ⟨x4, -, h4⟩ := o_str t4 (fun k hk => hww k (by simp [DataW.weightsEach, hk])) hs
    have t5 : DataW.trod enc Tryz.prog W base spare held n' 55 [c5, c6, c7, c8, c9] = some z5 := hf 5 _ rfl
    obtain ⟨x5, -, h5⟩ := o_ten t5 (fun k hk => hww k (by simp [DataW.weightsEach, hk])) hs
    have t6 : DataW.trod enc Tryz.prog W base spare held n' 51 [c10] = some z6 := hf 6 _ rfl
    obtain ⟨x6, -, h6⟩ := o_u32s t6 (fun k hk => hww k (by simp [DataW.weightsEach, hk])) hs
    have t7 : DataW.trod enc Tryz.prog W base spare held n' 52 [c11] = some z7 := hf 7 _ rfl
    obtain ⟨x7, -, h7⟩ := o_i64s t7 (fun k hk => hww k (by simp [DataW.weightsEach, hk])) hs
    exact ⟨⟨x0, x1, x2, x3, x4, x5, x6, x7⟩, rfl, HL.app h0 (HL.app h1 (HL.app h2 (HL.app h3 (HL.app h4 (HL.app h5 (HL.app h6 (h7)))))))⟩
theorem o_atts : Opens 46 1 (fun l : List Atr => [.row 12 (l.flatMap datA)]) := opens_slice (by1 := 208) Tryz.underlying46 o_att (by omega) (fun _ => rfl) (by kernel_rfl) (by kernel_rfl) (by omega)
set_option maxRecDepth 100000 in
theorem o_nod : Opens 48 5 datN := by
  intro H enc W base spare held fuel cs x h hw hs
  obtain ⟨ys, n', -, hx, hl, hyl, hf⟩ := DataW.trod_struct Tryz.underlying48 h
  have hl' : cs.length = 5 := by rw [hl]; kernel_rfl
  have hd : x.1 = .agg (ys.map (·.1)) := by rw [hx]
  match cs, hl', ys, hyl, hd, hf with
  | [c0, c1, c2, c3, c4], _, [z0, z1, z2, z3, z4], _, hd, hf =>
    have hww : ∀ k ∈ DataW.weightsEach Tryz.prog [9, 9, 45, 45, 46] [z0.1, z1.1, z2.1, z3.1, z4.1], k ≤ reachBytes := fun k hk => hw k (by
      rw [hd]
      simp only [DataW.weights, Tryz.underlying48]
      exact hk)
    have t0 : DataW.trod enc Tryz.prog W base spare held n' 9 [c0] = some z0 := hf 0 _ rfl
    obtain ⟨x0, -, h0⟩ := o_str t0 (fun k hk => hww k (by simp [DataW.weightsEach, hk])) hs
    have t1 : DataW.trod enc Tryz.prog W base spare held n' 9 [c1] = some z1 := hf 1 _ rfl
    obtain ⟨x1, -, h1⟩ := o_str t1 (fun k hk => hww k (by simp [DataW.weightsEach, hk])) hs
    have t2 : DataW.trod enc Tryz.prog W base spare held n' 45 [c2] = some z2 := hf 2 _ rfl
    obtain ⟨x2, -, h2⟩ := o_strs t2 (fun k hk => hww k (by simp [DataW.weightsEach, hk])) hs
    have t3 : DataW.trod enc Tryz.prog W base spare held n' 45 [c3] = some z3 := hf 3 _ rfl
    obtain ⟨x3, -, h3⟩ := o_strs t3 (fun k hk => hww k (by simp [DataW.weightsEach, hk])) hs
    have t4 : DataW.trod enc Tryz.prog W base spare held n' 46 [c4] = some z4 := hf 4 _ rfl
    obtain ⟨x4, -, h4⟩ := o_atts t4 (fun k hk => hww k (by simp [DataW.weightsEach, hk])) hs
    exact ⟨⟨x0, x1, x2, x3, x4⟩, rfl, HL.app h0 (HL.app h1 (HL.app h2 (HL.app h3 (h4))))⟩
set_option maxRecDepth 100000 in
theorem o_ini : Opens 57 6 datC := by
  intro H enc W base spare held fuel cs x h hw hs
  obtain ⟨ys, n', -, hx, hl, hyl, hf⟩ := DataW.trod_struct Tryz.underlying57 h
  have hl' : cs.length = 6 := by rw [hl]; kernel_rfl
  have hd : x.1 = .agg (ys.map (·.1)) := by rw [hx]
  match cs, hl', ys, hyl, hd, hf with
  | [c0, c1, c2, c3, c4, c5], _, [z0, z1], _, hd, hf =>
    have hww : ∀ k ∈ DataW.weightsEach Tryz.prog [9, 55] [z0.1, z1.1], k ≤ reachBytes := fun k hk => hw k (by
      rw [hd]
      simp only [DataW.weights, Tryz.underlying57]
      exact hk)
    have t0 : DataW.trod enc Tryz.prog W base spare held n' 9 [c0] = some z0 := hf 0 _ rfl
    obtain ⟨x0, -, h0⟩ := o_str t0 (fun k hk => hww k (by simp [DataW.weightsEach, hk])) hs
    have t1 : DataW.trod enc Tryz.prog W base spare held n' 55 [c1, c2, c3, c4, c5] = some z1 := hf 1 _ rfl
    obtain ⟨x1, -, h1⟩ := o_ten t1 (fun k hk => hww k (by simp [DataW.weightsEach, hk])) hs
    exact ⟨⟨x0, x1⟩, rfl, HL.app h0 (h1)⟩
theorem o_nods : Opens 22 1 (fun l : List Nod => [.row 5 (l.flatMap datN)]) := opens_slice (by1 := 104) Tryz.underlying22 o_nod (by omega) (fun _ => rfl) (by kernel_rfl) (by kernel_rfl) (by omega)
theorem o_inis : Opens 23 1 (fun l : List Ini => [.row 6 (l.flatMap datC)]) := opens_slice (by1 := 120) Tryz.underlying23 o_ini (by omega) (fun _ => rfl) (by kernel_rfl) (by kernel_rfl) (by omega)
theorem o_vals : Opens 24 1 (fun l : List Va => [.row 3 (l.flatMap datV)]) := opens_slice (by1 := 48) Tryz.underlying24 o_val (by omega) (fun _ => rfl) (by kernel_rfl) (by kernel_rfl) (by omega)
set_option maxRecDepth 100000 in
theorem o_mod : Opens 26 6 datM := by
  intro H enc W base spare held fuel cs x h hw hs
  obtain ⟨ys, n', -, hx, hl, hyl, hf⟩ := DataW.trod_struct Tryz.underlying26 h
  have hl' : cs.length = 6 := by rw [hl]; kernel_rfl
  have hd : x.1 = .agg (ys.map (·.1)) := by rw [hx]
  match cs, hl', ys, hyl, hd, hf with
  | [c0, c1, c2, c3, c4, c5], _, [z0, z1, z2, z3, z4, z5], _, hd, hf =>
    have hww : ∀ k ∈ DataW.weightsEach Tryz.prog [2, 9, 22, 23, 24, 24] [z0.1, z1.1, z2.1, z3.1, z4.1, z5.1], k ≤ reachBytes := fun k hk => hw k (by
      rw [hd]
      simp only [DataW.weights, Tryz.underlying26]
      exact hk)
    have t0 : DataW.trod enc Tryz.prog W base spare held n' 2 [c0] = some z0 := hf 0 _ rfl
    obtain ⟨x0, -, h0⟩ := o_i64 t0 (fun k hk => hww k (by simp [DataW.weightsEach, hk])) hs
    have t1 : DataW.trod enc Tryz.prog W base spare held n' 9 [c1] = some z1 := hf 1 _ rfl
    obtain ⟨x1, -, h1⟩ := o_str t1 (fun k hk => hww k (by simp [DataW.weightsEach, hk])) hs
    have t2 : DataW.trod enc Tryz.prog W base spare held n' 22 [c2] = some z2 := hf 2 _ rfl
    obtain ⟨x2, -, h2⟩ := o_nods t2 (fun k hk => hww k (by simp [DataW.weightsEach, hk])) hs
    have t3 : DataW.trod enc Tryz.prog W base spare held n' 23 [c3] = some z3 := hf 3 _ rfl
    obtain ⟨x3, -, h3⟩ := o_inis t3 (fun k hk => hww k (by simp [DataW.weightsEach, hk])) hs
    have t4 : DataW.trod enc Tryz.prog W base spare held n' 24 [c4] = some z4 := hf 4 _ rfl
    obtain ⟨x4, -, h4⟩ := o_vals t4 (fun k hk => hww k (by simp [DataW.weightsEach, hk])) hs
    have t5 : DataW.trod enc Tryz.prog W base spare held n' 24 [c5] = some z5 := hf 5 _ rfl
    obtain ⟨x5, -, h5⟩ := o_vals t5 (fun k hk => hww k (by simp [DataW.weightsEach, hk])) hs
    exact ⟨⟨x0, x1, x2, x3, x4, x5⟩, rfl, HL.app h0 (HL.app h1 (HL.app h2 (HL.app h3 (HL.app h4 (h5)))))⟩

section
variable {H : Type} {enc : TypeId × Value → H} {W : World} {base0 base : Nat} {spare : Nat → Bool} {held : Bool}
set_option maxRecDepth 100000 in
/-- an []int that came in -/
theorem open_dims {r : Reach} {v : Value} {d : DataW H} {p : List MemPlace} (hv : Value.okWide Tryz.prog W r base0 35 v) (h : DataW.Trod enc Tryz.prog W base spare held 35 v d p)
    (hw : ∀ n ∈ d.weights Tryz.prog 35, n ≤ reachBytes) (hs : ∀ b, spare b = true) : ∃ l : List Int64, Held W (fun _ => True) (datI l) v := by
  obtain ⟨a0, len, cap, rfl⟩ := okWide_slice Tryz.underlying35 hv
  obtain ⟨fuel, hf⟩ := h
  obtain ⟨l, -, hh⟩ := o_ints hf hw hs
  have hh' : HL W (fun _ => True) [datI l] [.slice a0 len cap] := by simpa [Value.cells] using hh
  cases hh' with
  | cons h1 _ => exact ⟨l, h1⟩
set_option maxRecDepth 100000 in
/-- a Model that came in -/
theorem open_model {r : Reach} {v : Value} {d : DataW H} {p : List MemPlace} (hv : Value.okWide Tryz.prog W r base0 26 v) (h : DataW.Trod enc Tryz.prog W base spare held 26 v d p)
    (hw : ∀ n ∈ d.weights Tryz.prog 26, n ≤ reachBytes) (hs : ∀ b, spare b = true) : ∃ (m : Mo) (us : List Value), v = .agg us.toArray ∧ HL W (fun _ => True) (datM m) us := by
  obtain ⟨cs, rfl, -⟩ := okWide_struct Tryz.underlying26 hv
  obtain ⟨fuel, hf⟩ := h
  obtain ⟨m, -, hh⟩ := o_mod hf hw hs
  refine ⟨m, cs.toList, by simp, ?_⟩
  simpa [Value.cells] using hh
end
end Go.Proofs.YtlhpmlknmgocoaaGreat
