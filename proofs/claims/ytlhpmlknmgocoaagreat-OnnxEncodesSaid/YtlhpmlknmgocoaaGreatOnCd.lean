/- A message that is being written: its block, its fields; the methods that add to it. -/
import Derived.Test.YtlhpmlknmgocoaaGreatOnCa
namespace Go.Proofs.YtlhpmlknmgocoaaGreat
set_option linter.unusedSimpArgs false
set_option linter.unusedVariables false
open Go.RowKit

/-- a message's state since the world w: its block g, its list v of fields, whose rows and data lie from lo on -/
structure OS (w W : World) (g lo : Nat) (v : Value) (fs : List Fld) : Prop where
  b : Blk W g 71 #[v]
  r : HRow W lo 108 4 v fs.length (fs.flatMap datFd)
  bel : Below w.heap.size w W
  gw : w.heap.size ≤ g
  gl : g < lo
  lw : lo ≤ W.heap.size
/-- all that was there is as it was, but for the block g and v's own -/
structure Fr (w w' : World) (g : Nat) (v : Value) : Prop where
  os : w'.os = w.os
  tape : w'.tape = w.tape
  output : w'.output = w.output
  size : w.heap.size ≤ w'.heap.size
  block : ∀ k, k < w.heap.size → k ≠ g → v.ownBlock ≠ some k → w'.heap[k]? = w.heap[k]?
section
variable {w W W' : World} {g g' lo lo' : Nat} {v v' : Value} {fs fs' : List Fld} {S : Nat → Prop} {d : Dat} {u : Value}
theorem Fr.refl (w : World) (g : Nat) (v : Value) : Fr w w g v := ⟨rfl, rfl, rfl, Nat.le_refl _, fun _ _ _ _ => rfl⟩
theorem Fr.past (h : Below W.heap.size W W') (g : Nat) (v : Value) : Fr W W' g v := ⟨h.os, h.tape, h.output, h.size, fun k hk _ _ => h.block k hk⟩
theorem Fr.blk {t : TypeId} {cs : Array Value} {x : Nat} (h : Fr W W' g v) (hb : Blk W x t cs) (h1 : x ≠ g) (h2 : v.ownBlock ≠ some x) : Blk W' x t cs := (h.block x hb.lt h1 h2).trans hb
theorem Fr.cell {p : Addr} {x : Value} (h : Fr W W' g v) (hc : W.cell? p = some x) (h1 : p.block ≠ g) (h2 : v.ownBlock ≠ some p.block) : W'.cell? p = some x := by
  exact (World.cell?_of_block (w := W) (h.block _ (World.block_lt_of_cell? W _ hc) h1 h2)).trans hc
theorem Fr.held (h : Fr W W' g v) (hd : Held W S d u) (h1 : ∀ b, S b → b ≠ g ∧ v.ownBlock ≠ some b) : Held W' S d u :=
  hd.keep (fun _ h => h) fun p x hs hc => h.cell hc (h1 _ hs).1 (h1 _ hs).2
theorem Fr.below {B : Nat} (h : Fr W W' g v) (hb : Below B w W) (h1 : B ≤ W.heap.size) (h2 : B ≤ g) (h3 : ∀ q, v.ownBlock = some q → B ≤ q) : Below B w W' :=
  ⟨h.os.trans hb.os, h.tape.trans hb.tape, h.output.trans hb.output, Nat.le_trans hb.size h.size, fun k hk => (h.block k (by omega) (by omega) (fun e => by have := h3 k e; omega)).trans (hb.block k hk)⟩
theorem OS.own (h : OS w W g lo v fs) : ∀ q, v.ownBlock = some q → lo ≤ q ∧ q < W.heap.size := h.r.lt
/-- data made since are none of the row's -/
theorem OS.fresh (h : OS w W g lo v fs) (hb : Below W.heap.size W W') (hd : Held W' (Inb W.heap.size W'.heap.size) d u) : Held W' (Oth lo W' v) d u := h.r.fresh h.lw hd
theorem OS.past (h : OS w W g lo v fs) (hb : Below W.heap.size W W') : OS w W' g lo v fs :=
  ⟨Blk.below h.b hb h.b.lt, h.r.grown (row := none) ⟨hb.os, hb.tape, hb.output, hb.size, fun k hk _ => hb.block k hk⟩ (by simp), h.bel.trans (hb.mono h.bel.size), h.gw, h.gl, Nat.le_trans h.lw hb.size⟩
end

theorem info_OF : (Tryz.prog.info? 108).map (fun i => (i.zero, i.size, i.bytes)) = some (some (.agg #[.int .i64 0, .int .i64 0, .int .u64 0, .slice none 0 0]), 4, 48) := by kernel_rfl
/-- what a method that adds to a message leaves -/
def OP (w W : World) (g lo : Nat) (v : Value) (fs : List Fld) (e : Ending) (W' : World) : Prop :=
  ∃ v', e = .returned (.tuple #[]) ∧ OS w W' g lo v' fs ∧ Fr W W' g v ∧ (v'.ownBlock = v.ownBlock ∨ ∃ k, v'.ownBlock = some k ∧ W.heap.size ≤ k)
section
variable {w W W' W2 : World} {g lo : Nat} {v v' u : Value} {fs : List Fld} {f : Fld}
theorem OS.append (h : OS w W g lo v fs) (hr : HRow W2 lo 108 4 v' (fs.length + 1) (fs.flatMap datFd ++ datFd f)) (hg : W.grownBy W2 v.ownBlock) (ho : v'.ownBlock = v.ownBlock ∨ ∃ k, v'.ownBlock = some k ∧ W.heap.size ≤ k) :
    OP w W g lo v (fs ++ [f]) (.returned (.tuple #[])) (W2.setCell ⟨g, 0, none⟩ v') := by
  have hown := h.own
  have hgl := h.gl
  have hgw := h.gw
  have hlw := h.lw
  refine ⟨v', rfl, ⟨?_, ?_, ?_, hgw, hgl, ?_⟩, ?_, ho⟩
  · have := (h.b.grown hg (fun e => by have := hown g e.symm; omega)).set_ 0 v'
    simpa using this
  · have h1 := hr.grown (grown_set W2 g 0 v') (fun k e => by injection e with e; omega)
    rw [List.length_append, List.flatMap_append]
    simpa using h1
  · exact (h.bel.grown hg h.bel.size (fun k e => by have := hown k e; omega)).setCell (p := ⟨g, 0, none⟩) (by simpa using hgw) v'
  · have := hg.size
    simp [World.setCell]; omega
  · exact ⟨hg.os, hg.tape, hg.output, by simpa [World.setCell] using hg.size, fun k hk h1 h2 => (Below.heap_setCell W2 ⟨g, 0, none⟩ v' k (by simpa using h1)).trans (hg.block k hk (fun e => h2 e.symm))⟩
theorem OS.start (h : OS w W g lo v fs) : W.cell? ⟨g, 0, none⟩ = some v ∧ W.frozen? ⟨g, 0, none⟩ = false ∧ g < W.heap.size := ⟨h.b.cell 0, h.b.frozen 0, h.b.lt⟩
theorem OS.mid (h : OS w W g lo v fs) (hg : W.grownBy W2 v.ownBlock) : W2.cell? ⟨g, 0, none⟩ = some v ∧ W2.frozen? ⟨g, 0, none⟩ = false ∧ g < W2.heap.size :=
  have hb := h.b.grown hg (fun e => by have := h.own g e.symm; have := h.gl; omega)
  ⟨hb.cell 0, hb.frozen 0, hb.lt⟩
theorem u64_lt0 (x : Int64) : u64 x < 18446744073709551616 := by unfold u64; exact UInt64.toNat_lt _
theorem u64_wrap (x : Int64) : IntKind.u64.wrap x.toInt = (u64 x : Int) := by
  show x.toInt % 18446744073709551616 = _
  have h1 : x.toInt = Int.bmod (u64 x : Int) (2 ^ 64) := by
    show x.toBitVec.toInt = _
    rw [BitVec.toInt_eq_toNat_bmod]
    rfl
  have h2 := u64_lt0 x
  rw [h1, Int.bmod_def]
  omega
set_option maxRecDepth 100000 in
set_option maxHeartbeats 800000 in
theorem obytes_any {b : List UInt8} (num : Int) (hs : OS w W g lo v fs) (hd : Held W (Oth lo W v) (datB b) u) (hm : fs.length + 1 ≤ 2900000000000) :
    Calls Tryz.prog 23 #[.pointer (some ⟨g, 0, none⟩), .int .i64 num, u] W (OP w W g lo v (fs ++ [dF num b])) := by
  obtain ⟨k0, z0, l0⟩ := hs.start
  obtain ⟨A1, c1, rfl, -⟩ := hs.r.form
  obtain ⟨A2, c2, rfl, -⟩ := Held.form1 hd
  have HS := Lib.hid hs
  go_enter Tryz.func23, Tryz.ntmps23
  go_wp2_with (at_builtin
               go_must (refine append_dat 69 108 (.agg #[.int .i64 0, .int .i64 0, .int .u64 0, .slice none 0 0]) 4 48 (by kernel_rfl) info_OF rfl (by decide) rfl _ _ rfl hs.r rfl rfl rfl (datFd (dF num b)) [.int .i64 num, .int .i64 2, .int .u64 0, .slice A2 b.length c2] rfl rfl (by simp [Value.oneCell']) (HL.get (.cons (.leaf _) (.cons (.leaf _) (.cons (.leaf _) (.cons hd .nil))))) (by omega) (by unfold maxLen; omega) hs.lw ?_; intro v2 w3 ho2 hg2 ha2; obtain ⟨A9, c9, rfl, -⟩ := ho2.form; obtain ⟨k3, z3, l3⟩ := HS.out.mid hg2))
  go_end0
  exact HS.out.append ho2 hg2 ha2
set_option maxRecDepth 100000 in
set_option maxHeartbeats 800000 in
theorem onumber_any (num : Int) (x : Int64) (hs : OS w W g lo v fs) (hm : fs.length + 1 ≤ 2900000000000) :
    Calls Tryz.prog 29 #[.pointer (some ⟨g, 0, none⟩), .int .i64 num, .int .i64 x.toInt] W (OP w W g lo v (fs ++ [vF num (u64 x)])) := by
  obtain ⟨k0, z0, l0⟩ := hs.start
  obtain ⟨A1, c1, rfl, -⟩ := hs.r.form
  have HS := Lib.hid hs
  have HX := Lib.hid (u64_wrap x)
  generalize u64 x = y at *
  generalize x.toInt = d at *
  go_enter Tryz.func29, Tryz.ntmps29
  go_wp2_with (at_builtin
               go_must (refine append_dat 69 108 (.agg #[.int .i64 0, .int .i64 0, .int .u64 0, .slice none 0 0]) 4 48 (by kernel_rfl) info_OF rfl (by decide) rfl _ _ rfl hs.r rfl rfl rfl (datFd (vF num y)) [.int .i64 num, .int .i64 0, .int .u64 (IntKind.u64.wrap d), .slice none 0 0] rfl rfl (by simp [Value.oneCell']) (HL.get (.cons (.leaf _) (.cons (.leaf _) (.cons (by rw [HX.out]; exact .leaf _) (.cons (Held.nil _ _ _ _ _ (by unfold maxLen; omega)) .nil))))) (by omega) (by unfold maxLen; omega) hs.lw ?_; intro v2 w3 ho2 hg2 ha2; obtain ⟨A9, c9, rfl, -⟩ := ho2.form; obtain ⟨k3, z3, l3⟩ := HS.out.mid hg2))
  go_end0
  exact HS.out.append ho2 hg2 ha2
end
end Go.Proofs.YtlhpmlknmgocoaaGreat
