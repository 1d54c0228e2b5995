/- How the arguments of the statements are opened: bytes as RB, within the reach; and the shell that all statements share. -/
import Derived.Test.YthhanpfcnaokpaaAwake
import Derived.Test.YthhanpfcnaokpaaRWrite
import Derived.Test.YthhanpfcnaokpaaLaws
import Derived.ProofKit
import Derived.OpenShut
import Derived.ChangeOld
import Derived.SizedLaws
namespace Go.Proofs.Ythhanpfcnaokpaa
open Go.ChangeShapes Go.WideShapes Go.ChangeAt Go.RowKit

theorem below_drewN {B : Nat} {a w : World} (h : Below B a w) (n : Nat) : Below B a (w.drewN n) := ⟨h.os, h.tape, h.output, h.size, h.block⟩

theorem own : ownKnob Try.prog.godebug = none := by kernel_rfl
theorem laidOut : laidOutB Try.prog = true := by kernel_rfl
theorem bytes_u8 : Try.prog.bytesOf 5 = 1 := by kernel_rfl
theorem cells_u8 : Try.prog.cellsOf 5 = 1 := by kernel_rfl

section
variable {H : Type} {enc : TypeId × Value → H} {W : World} {base0 base : Nat} {spare : Nat → Bool} {held : Bool}
/-- a []byte that came in -/
theorem open_bytes {r : Reach} {v : Value} {d : DataW H} {p : List MemPlace} (hv : Value.okWide Try.prog W r base0 24 v) (h : DataW.Trod enc Try.prog W base spare held 24 v d p)
    (hw : ∀ n ∈ d.weights Try.prog 24, n ≤ reachBytes) (hs : ∀ b, spare b = true) :
    ∃ A cap l, v = .slice A l.length cap ∧ l.length ≤ cap ∧ cap ≤ 140737488351232 ∧ RB W W.heap.size A l := by
  obtain ⟨a0, len, cap, rfl⟩ := okWide_slice Try.underlying24 hv
  obtain ⟨fuel, hf⟩ := h
  rcases open_ints Try.underlying24 Try.underlying5 cells_u8 hf with ⟨hcs, hx⟩ | ⟨x, l, c, zs, hcs, _, hl, hm, hz, hx, hcell, hwz⟩
  · simp [Value.cells] at hcs
    obtain ⟨rfl, rfl, rfl⟩ := hcs
    exact ⟨none, 0, [], rfl, Nat.le_refl _, by omega, RB.nil _ _ _⟩
  · simp [Value.cells] at hcs
    obtain ⟨rfl, rfl, rfl⟩ := hcs
    rw [hs x.block, if_pos rfl] at hz
    simp only [Prod.mk.injEq] at hx
    have hsz := hw ((lits (H := H) .u8 (zs.take len)).length + (lits (H := H) .u8 (zs.drop len)).length) (by
      rw [hx.1]
      simp [DataW.weights, Try.underlying24, bytes_u8])
    have hlen : (lits (H := H) .u8 (zs.take len)).length + (lits (H := H) .u8 (zs.drop len)).length = cap := by
      simp [lits]; omega
    rw [hlen] at hsz
    have hll : ((zs.take len).map fun z => UInt8.ofNat z.toNat).length = len := by simp; omega
    refine ⟨some x, cap, (zs.take len).map fun z => UInt8.ofNat z.toNat, by rw [hll], by rw [hll]; exact hl, hsz, ?_⟩
    refine ⟨by rw [byt_len]; omega, fun hn => ⟨x, rfl, ?_, ?_⟩⟩
    · have h0 := hcell 0 (by rw [hll] at hn; omega)
      have := World.block_lt_of_cell? W _ h0
      rwa [block_of_add] at this
    · intro j u hu
      have hj : j < ((zs.take len).map fun z => UInt8.ofNat z.toNat).length := by
        have := (List.getElem?_eq_some_iff.1 hu).1
        rwa [byt_len] at this
      rw [byt_get _ j hj] at hu
      obtain rfl := Option.some.inj hu
      rw [hll] at hj
      have hjz : j < zs.length := by omega
      rw [hcell j hjz]
      have hmem := hwz zs[j] (List.getElem_mem _)
      have hb := bounds_u8 hmem
      simp only [List.getElem_map, List.getElem_take, List.getD_eq_getElem?_getD, List.getElem?_eq_getElem hjz, Option.getD_some]
      congr 2
      simp only [UInt8.toNat_ofNat']
      omega
end
end Go.Proofs.Ythhanpfcnaokpaa
