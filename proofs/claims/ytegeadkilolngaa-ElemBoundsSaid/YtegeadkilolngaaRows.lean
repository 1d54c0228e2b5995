/-
  No cell of these rows narrows 'for every input' (looked for: loops, veiled, ifaces, maps, wideKeys, modest, calm, conditions, laid).
  DERIVED. THE GIVEN ROWS OF THIS SEAT. 3 by the template 'for every input the law returns true; each argument reads behind the call as it read before'; 0 by the template 'total and deterministic' (their statements: YtegeadkilolngaaTotals.lean).
  GIVEN WITH THE SEED: the statements are not yours to turn. If you find one false, say at which input.
  Laid BY PROGRAM, IN A SANDBOX (cutbox-rows.mjs): the forced cells as the released guide's own fill.sh prints them over the translation 104d1d26fbd3fb4c… (all of the seat's roots in one cut). By AI agents, Wed Nov 11 2026. No macro, syntax, notation, axiom, sorry.
-/
import Derived.Test.YtegeadkilolngaaChecked
import GoSem.Claim
import GoSem.ClaimJoined
import GoSem.ClaimMapViews
import Derived.JoinedTies
import Derived.KernelRfl
namespace Go.Proofs.Ytegeadkilolngaa
/- THE CELL 'sum', in the pinned program and in every row, IS THE sha256 OF THE DUMP (.gsa) THAT YtegeadkilolngaaProg.lean LOADS. Nothing in Lean hashes anything: it is a label: what it is worth is what the hold of that sum in a sandbox is worth. -/
noncomputable def Try.pinned : Pinned := { name := "ytegeadkilolngaa", sum := "104d1d26fbd3fb4c29118a326e9cb6aed04d298d2ffa36b6bb7b1a971f5c1abf", checked := Try.checked }
namespace Rows
def none {H : Type} : Left H := { results := [], args := [] }

/-- 'latticelaw03.ElemCircles': WHATEVER THE INPUT: true; the input reads as it did. -/
def elemCirclesSpec : ChangeSpec := { name := "elemCircles", fn := fun _ => fun
  | [d] => { results := [.lit (.bool true)], args := [d] }
  | _ => none }
def elemCirclesRow : OpenClaim := { program := "ytegeadkilolngaa", sum := "104d1d26fbd3fb4c29118a326e9cb6aed04d298d2ffa36b6bb7b1a971f5c1abf", func := "lattice/latticelaw03.ElemCircles", spec := "elemCircles", inPlace := ["math/bits.Add64", "math/bits.Sub64"], unfollowed := true, recurses := true, apart := false }
def ElemCirclesSaid : Prop := elemCirclesRow.holds Try.pinned (OpenSpec.ofChange elemCirclesSpec)

/-- ITS FALSE NEIGHBOUR: 'it returns false'. Refute it at one input. -/
def elemCirclesWrong : ChangeSpec := { name := "elemCircles", fn := fun _ => fun
  | [d] => { results := [.lit (.bool false)], args := [d] }
  | _ => none }
def ElemCirclesWrongFalsely : Prop := elemCirclesRow.holds Try.pinned (OpenSpec.ofChange elemCirclesWrong)

/-- 'latticelaw03.ElemTurned': WHATEVER THE INPUT: true; the input reads as it did. -/
def elemTurnedSpec : ChangeSpec := { name := "elemTurned", fn := fun _ => fun
  | [d] => { results := [.lit (.bool true)], args := [d] }
  | _ => none }
def elemTurnedRow : OpenClaim := { program := "ytegeadkilolngaa", sum := "104d1d26fbd3fb4c29118a326e9cb6aed04d298d2ffa36b6bb7b1a971f5c1abf", func := "lattice/latticelaw03.ElemTurned", spec := "elemTurned", inPlace := ["math/bits.Add64", "math/bits.Sub64"], unfollowed := true, recurses := true, apart := false }
def ElemTurnedSaid : Prop := elemTurnedRow.holds Try.pinned (OpenSpec.ofChange elemTurnedSpec)

/-- ITS FALSE NEIGHBOUR: 'it returns false'. Refute it at one input. -/
def elemTurnedWrong : ChangeSpec := { name := "elemTurned", fn := fun _ => fun
  | [d] => { results := [.lit (.bool false)], args := [d] }
  | _ => none }
def ElemTurnedWrongFalsely : Prop := elemTurnedRow.holds Try.pinned (OpenSpec.ofChange elemTurnedWrong)

/-- 'latticelaw03.ElemBounds': WHATEVER THE INPUT: true; the input reads as it did. -/
def elemBoundsSpec : ChangeSpec := { name := "elemBounds", fn := fun _ => fun
  | [d1, d2] => { results := [.lit (.bool true)], args := [d1, d2] }
  | _ => none }
def elemBoundsRow : OpenClaim := { program := "ytegeadkilolngaa", sum := "104d1d26fbd3fb4c29118a326e9cb6aed04d298d2ffa36b6bb7b1a971f5c1abf", func := "lattice/latticelaw03.ElemBounds", spec := "elemBounds", inPlace := ["math/bits.Add64", "math/bits.Sub64"], unfollowed := true, recurses := true, apart := false }
def ElemBoundsSaid : Prop := elemBoundsRow.holds Try.pinned (OpenSpec.ofChange elemBoundsSpec)

/-- ITS FALSE NEIGHBOUR: 'it returns false'. Refute it at one input. -/
def elemBoundsWrong : ChangeSpec := { name := "elemBounds", fn := fun _ => fun
  | [d1, d2] => { results := [.lit (.bool false)], args := [d1, d2] }
  | _ => none }
def ElemBoundsWrongFalsely : Prop := elemBoundsRow.holds Try.pinned (OpenSpec.ofChange elemBoundsWrong)

/- THE SECOND FORM. 'bulk': how many values and letters a reading holds, each counted each time it is reached (what is shared counts as often as it is met; a slice's spare places count too). A statement '..UptoSaid' is the law's where the arguments, and the package variables that the reading takes, are together of bulk at most 1048576: NARROWER than '..Said'. Prove '..Said' where nothing that the law and all that it calls make is longer than what came in: it says more and counts as full. Else prove '..UptoSaid'. A law counts once. -/
mutual
def uptoBulk {H : Type} : DataW H → Nat
  | .lit (.string bytes) => bytes.length + 1
  | .lit _ => 1
  | .nil => 1
  | .ptr d => uptoBulk d + 1
  | .slice elems spare => uptoBulkAll elems + uptoBulkAll spare + 1
  | .agg parts => uptoBulkAll parts + 1
  | .iface _ d => uptoBulk d + 1
  | .map entries => uptoBulkEntries entries + 1
  | .held _ => 1
def uptoBulkAll {H : Type} : List (DataW H) → Nat
  | [] => 0
  | d :: r => uptoBulk d + uptoBulkAll r
def uptoBulkEntries {H : Type} : List (Lit × DataW H) → Nat
  | [] => 0
  | x :: r => uptoBulkEntry x + uptoBulkEntries r
def uptoBulkEntry {H : Type} : Lit × DataW H → Nat
  | (.string bytes, d) => bytes.length + uptoBulk d + 1
  | (_, d) => uptoBulk d + 1
 end
def uptoSmall : (H : Type) → List (DataW H) → Bool := fun _ ds => decide (uptoBulkAll ds ≤ 1048576)
def OpenSpec.upto (s : _root_.Go.ChangeSpec) : _root_.Go.OpenSpec := { _root_.Go.OpenSpec.ofChange s with cond := some uptoSmall }

/-- 'latticelaw03.ElemCircles', WHERE WHAT IT READS IS OF BULK AT MOST 1048576: true; the input reads as it did. -/
def elemCirclesUptoRow : OpenClaim := { program := "ytegeadkilolngaa", sum := "104d1d26fbd3fb4c29118a326e9cb6aed04d298d2ffa36b6bb7b1a971f5c1abf", func := "lattice/latticelaw03.ElemCircles", spec := "elemCircles", inPlace := ["math/bits.Add64", "math/bits.Sub64"], unfollowed := true, recurses := true, apart := false, narrowed := true }
def ElemCirclesUptoSaid : Prop := elemCirclesUptoRow.holds Try.pinned (OpenSpec.upto elemCirclesSpec)

/-- 'latticelaw03.ElemTurned', WHERE WHAT IT READS IS OF BULK AT MOST 1048576: true; the input reads as it did. -/
def elemTurnedUptoRow : OpenClaim := { program := "ytegeadkilolngaa", sum := "104d1d26fbd3fb4c29118a326e9cb6aed04d298d2ffa36b6bb7b1a971f5c1abf", func := "lattice/latticelaw03.ElemTurned", spec := "elemTurned", inPlace := ["math/bits.Add64", "math/bits.Sub64"], unfollowed := true, recurses := true, apart := false, narrowed := true }
def ElemTurnedUptoSaid : Prop := elemTurnedUptoRow.holds Try.pinned (OpenSpec.upto elemTurnedSpec)

/-- 'latticelaw03.ElemBounds', WHERE WHAT IT READS IS OF BULK AT MOST 1048576: true; the input reads as it did. -/
def elemBoundsUptoRow : OpenClaim := { program := "ytegeadkilolngaa", sum := "104d1d26fbd3fb4c29118a326e9cb6aed04d298d2ffa36b6bb7b1a971f5c1abf", func := "lattice/latticelaw03.ElemBounds", spec := "elemBounds", inPlace := ["math/bits.Add64", "math/bits.Sub64"], unfollowed := true, recurses := true, apart := false, narrowed := true }
def ElemBoundsUptoSaid : Prop := elemBoundsUptoRow.holds Try.pinned (OpenSpec.upto elemBoundsSpec)

end Rows
end Go.Proofs.Ytegeadkilolngaa
