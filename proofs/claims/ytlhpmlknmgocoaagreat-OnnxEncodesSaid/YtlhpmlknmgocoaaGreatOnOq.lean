/- How bytes that came in are opened into data. -/
import Derived.Test.YtlhpmlknmgocoaaGreatOnOp
namespace Go.Proofs.YtlhpmlknmgocoaaGreat
set_option linter.unusedSimpArgs false
set_option linter.unusedVariables false
open Go.ChangeShapes Go.WideShapes Go.ChangeAt Go.RowKit Go.Deep
theorem o_u8 : Opens 5 1 (fun x : UInt8 => [.leaf (.int .u8 (x.toNat : Int))]) := by
  intro H enc W base spare held fuel cs x h _ _
  obtain ⟨n, rfl, -, hw⟩ := DataW.trod_int Tryz.underlying5 h
  have hb := bounds_u8 hw
  refine ⟨UInt8.ofNat n.toNat, rfl, .cons ?_ .nil⟩
  rw [show ((UInt8.ofNat n.toNat).toNat : Int) = n by simp; omega]
  exact .leaf _
theorem o_bytes : Opens 28 1 (fun l : List UInt8 => [datB l]) := Opens.leaves (D := fun x : UInt8 => .leaf (.int .u8 (x.toNat : Int))) (opens_slice (by1 := 1) Tryz.underlying28 o_u8 (by omega) (fun _ => rfl) (by kernel_rfl) (by kernel_rfl) (by omega))
section
variable {H : Type} {enc : TypeId × Value → H} {W : World} {base0 base : Nat} {spare : Nat → Bool} {held : Bool}
set_option maxRecDepth 100000 in
/-- bytes that came in -/
theorem open_bs {r : Reach} {v : Value} {d : DataW H} {p : List MemPlace} (hv : Value.okWide Tryz.prog W r base0 28 v) (h : DataW.Trod enc Tryz.prog W base spare held 28 v d p)
    (hw : ∀ n ∈ d.weights Tryz.prog 28, n ≤ reachBytes) (hs : ∀ b, spare b = true) : ∃ l : List UInt8, Held W (fun _ => True) (datB l) v := by
  obtain ⟨a0, len, cap, rfl⟩ := okWide_slice Tryz.underlying28 hv
  obtain ⟨fuel, hf⟩ := h
  obtain ⟨l, -, hh⟩ := o_bytes hf hw hs
  have hh' : HL W (fun _ => True) [datB l] [.slice a0 len cap] := by simpa [Value.cells] using hh
  cases hh' with
  | cons h1 _ => exact ⟨l, h1⟩
end
end Go.Proofs.YtlhpmlknmgocoaaGreat
