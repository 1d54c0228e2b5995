/-
  No cell of these rows narrows 'for every input' (looked for: loops, veiled, ifaces, maps, wideKeys, modest, calm, conditions, laid).
  DERIVED. THE GIVEN ROWS OF THIS SEAT. 8 by the template 'for every input the law returns true; each argument reads behind the call as it read before'; 0 by the template 'total and deterministic' (their statements: YtanccobllehnaaaTotals.lean).
  GIVEN WITH THE SEED: the statements are not yours to turn. If you find one false, say at which input.
  Laid BY PROGRAM, IN A SANDBOX (cutbox-rows.mjs): the forced cells as the released guide's own fill.sh prints them over the translation 43006eb9ef7e475f… (all of the seat's roots in one cut). By AI agents, Wed Nov 11 2026. No macro, syntax, notation, axiom, sorry.
-/
import Derived.Test.YtanccobllehnaaaChecked
import GoSem.Claim
import GoSem.ClaimJoined
import GoSem.ClaimMapViews
import Derived.JoinedTies
import Derived.KernelRfl
namespace Go.Proofs.Ytanccobllehnaaa
/- THE CELL 'sum', in the pinned program and in every row, IS THE sha256 OF THE DUMP (.gsa) THAT YtanccobllehnaaaProg.lean LOADS. Nothing in Lean hashes anything: it is a label: what it is worth is what the hold of that sum in a sandbox is worth. -/
noncomputable def Try.pinned : Pinned := { name := "ytanccobllehnaaa", sum := "43006eb9ef7e475f0dbfa53c7277c2c72e61630b11849c50615b136a7450a117", checked := Try.checked }
namespace Rows
def none {H : Type} : Left H := { results := [], args := [] }

/-- 'latticelaw02.RoundFmas': WHATEVER THE INPUT: true; the input reads as it did. -/
def roundFmasSpec : ChangeSpec := { name := "roundFmas", fn := fun _ => fun
  | [d1, d2, d3, d4] => { results := [.lit (.bool true)], args := [d1, d2, d3, d4] }
  | _ => none }
def roundFmasRow : OpenClaim := { program := "ytanccobllehnaaa", sum := "43006eb9ef7e475f0dbfa53c7277c2c72e61630b11849c50615b136a7450a117", func := "lattice/latticelaw02.RoundFmas", spec := "roundFmas", inPlace := ["math/bits.Add64", "math/bits.Sub64"], unfollowed := true, recurses := true, apart := false }
def RoundFmasSaid : Prop := roundFmasRow.holds Try.pinned (OpenSpec.ofChange roundFmasSpec)

/-- ITS FALSE NEIGHBOUR: 'it returns false'. Refute it at one input. -/
def roundFmasWrong : ChangeSpec := { name := "roundFmas", fn := fun _ => fun
  | [d1, d2, d3, d4] => { results := [.lit (.bool false)], args := [d1, d2, d3, d4] }
  | _ => none }
def RoundFmasWrongFalsely : Prop := roundFmasRow.holds Try.pinned (OpenSpec.ofChange roundFmasWrong)

/-- 'latticelaw02.RoundRoots': WHATEVER THE INPUT: true; the input reads as it did. -/
def roundRootsSpec : ChangeSpec := { name := "roundRoots", fn := fun _ => fun
  | [d1, d2] => { results := [.lit (.bool true)], args := [d1, d2] }
  | _ => none }
def roundRootsRow : OpenClaim := { program := "ytanccobllehnaaa", sum := "43006eb9ef7e475f0dbfa53c7277c2c72e61630b11849c50615b136a7450a117", func := "lattice/latticelaw02.RoundRoots", spec := "roundRoots", inPlace := ["math/bits.Add64", "math/bits.Sub64"], unfollowed := true, recurses := true, apart := false }
def RoundRootsSaid : Prop := roundRootsRow.holds Try.pinned (OpenSpec.ofChange roundRootsSpec)

/-- ITS FALSE NEIGHBOUR: 'it returns false'. Refute it at one input. -/
def roundRootsWrong : ChangeSpec := { name := "roundRoots", fn := fun _ => fun
  | [d1, d2] => { results := [.lit (.bool false)], args := [d1, d2] }
  | _ => none }
def RoundRootsWrongFalsely : Prop := roundRootsRow.holds Try.pinned (OpenSpec.ofChange roundRootsWrong)

/-- 'latticelaw02.RoundInts': WHATEVER THE INPUT: true; the input reads as it did. -/
def roundIntsSpec : ChangeSpec := { name := "roundInts", fn := fun _ => fun
  | [d1, d2, d3] => { results := [.lit (.bool true)], args := [d1, d2, d3] }
  | _ => none }
def roundIntsRow : OpenClaim := { program := "ytanccobllehnaaa", sum := "43006eb9ef7e475f0dbfa53c7277c2c72e61630b11849c50615b136a7450a117", func := "lattice/latticelaw02.RoundInts", spec := "roundInts", inPlace := ["math/bits.Add64", "math/bits.Sub64"], unfollowed := true, recurses := true, apart := false }
def RoundIntsSaid : Prop := roundIntsRow.holds Try.pinned (OpenSpec.ofChange roundIntsSpec)

/-- ITS FALSE NEIGHBOUR: 'it returns false'. Refute it at one input. -/
def roundIntsWrong : ChangeSpec := { name := "roundInts", fn := fun _ => fun
  | [d1, d2, d3] => { results := [.lit (.bool false)], args := [d1, d2, d3] }
  | _ => none }
def RoundIntsWrongFalsely : Prop := roundIntsRow.holds Try.pinned (OpenSpec.ofChange roundIntsWrong)

/-- 'latticelaw02.RoundScales': WHATEVER THE INPUT: true; the input reads as it did. -/
def roundScalesSpec : ChangeSpec := { name := "roundScales", fn := fun _ => fun
  | [d1, d2] => { results := [.lit (.bool true)], args := [d1, d2] }
  | _ => none }
def roundScalesRow : OpenClaim := { program := "ytanccobllehnaaa", sum := "43006eb9ef7e475f0dbfa53c7277c2c72e61630b11849c50615b136a7450a117", func := "lattice/latticelaw02.RoundScales", spec := "roundScales", inPlace := ["math/bits.Add64", "math/bits.Sub64"], unfollowed := true, recurses := true, apart := false }
def RoundScalesSaid : Prop := roundScalesRow.holds Try.pinned (OpenSpec.ofChange roundScalesSpec)

/-- ITS FALSE NEIGHBOUR: 'it returns false'. Refute it at one input. -/
def roundScalesWrong : ChangeSpec := { name := "roundScales", fn := fun _ => fun
  | [d1, d2] => { results := [.lit (.bool false)], args := [d1, d2] }
  | _ => none }
def RoundScalesWrongFalsely : Prop := roundScalesRow.holds Try.pinned (OpenSpec.ofChange roundScalesWrong)

/-- 'latticelaw02.RoundWholes': WHATEVER THE INPUT: true; the input reads as it did. -/
def roundWholesSpec : ChangeSpec := { name := "roundWholes", fn := fun _ => fun
  | [d] => { results := [.lit (.bool true)], args := [d] }
  | _ => none }
def roundWholesRow : OpenClaim := { program := "ytanccobllehnaaa", sum := "43006eb9ef7e475f0dbfa53c7277c2c72e61630b11849c50615b136a7450a117", func := "lattice/latticelaw02.RoundWholes", spec := "roundWholes", inPlace := ["math/bits.Add64", "math/bits.Sub64"], unfollowed := true, recurses := true, apart := false }
def RoundWholesSaid : Prop := roundWholesRow.holds Try.pinned (OpenSpec.ofChange roundWholesSpec)

/-- ITS FALSE NEIGHBOUR: 'it returns false'. Refute it at one input. -/
def roundWholesWrong : ChangeSpec := { name := "roundWholes", fn := fun _ => fun
  | [d] => { results := [.lit (.bool false)], args := [d] }
  | _ => none }
def RoundWholesWrongFalsely : Prop := roundWholesRow.holds Try.pinned (OpenSpec.ofChange roundWholesWrong)

/-- 'latticelaw02.RoundSquares': WHATEVER THE INPUT: true; the input reads as it did. -/
def roundSquaresSpec : ChangeSpec := { name := "roundSquares", fn := fun _ => fun
  | [d1, d2] => { results := [.lit (.bool true)], args := [d1, d2] }
  | _ => none }
def roundSquaresRow : OpenClaim := { program := "ytanccobllehnaaa", sum := "43006eb9ef7e475f0dbfa53c7277c2c72e61630b11849c50615b136a7450a117", func := "lattice/latticelaw02.RoundSquares", spec := "roundSquares", inPlace := ["math/bits.Add64", "math/bits.Sub64"], unfollowed := true, recurses := true, apart := false }
def RoundSquaresSaid : Prop := roundSquaresRow.holds Try.pinned (OpenSpec.ofChange roundSquaresSpec)

/-- ITS FALSE NEIGHBOUR: 'it returns false'. Refute it at one input. -/
def roundSquaresWrong : ChangeSpec := { name := "roundSquares", fn := fun _ => fun
  | [d1, d2] => { results := [.lit (.bool false)], args := [d1, d2] }
  | _ => none }
def RoundSquaresWrongFalsely : Prop := roundSquaresRow.holds Try.pinned (OpenSpec.ofChange roundSquaresWrong)

/-- 'latticelaw02.RoundBack': WHATEVER THE INPUT: true; the input reads as it did. -/
def roundBackSpec : ChangeSpec := { name := "roundBack", fn := fun _ => fun
  | [d1, d2] => { results := [.lit (.bool true)], args := [d1, d2] }
  | _ => none }
def roundBackRow : OpenClaim := { program := "ytanccobllehnaaa", sum := "43006eb9ef7e475f0dbfa53c7277c2c72e61630b11849c50615b136a7450a117", func := "lattice/latticelaw02.RoundBack", spec := "roundBack", inPlace := ["math/bits.Add64", "math/bits.Sub64"], unfollowed := true, recurses := true, apart := false }
def RoundBackSaid : Prop := roundBackRow.holds Try.pinned (OpenSpec.ofChange roundBackSpec)

/-- ITS FALSE NEIGHBOUR: 'it returns false'. Refute it at one input. -/
def roundBackWrong : ChangeSpec := { name := "roundBack", fn := fun _ => fun
  | [d1, d2] => { results := [.lit (.bool false)], args := [d1, d2] }
  | _ => none }
def RoundBackWrongFalsely : Prop := roundBackRow.holds Try.pinned (OpenSpec.ofChange roundBackWrong)

/-- 'latticelaw02.RoundFused': WHATEVER THE INPUT: true; the input reads as it did. -/
def roundFusedSpec : ChangeSpec := { name := "roundFused", fn := fun _ => fun
  | [d1, d2, d3, d4] => { results := [.lit (.bool true)], args := [d1, d2, d3, d4] }
  | _ => none }
def roundFusedRow : OpenClaim := { program := "ytanccobllehnaaa", sum := "43006eb9ef7e475f0dbfa53c7277c2c72e61630b11849c50615b136a7450a117", func := "lattice/latticelaw02.RoundFused", spec := "roundFused", inPlace := ["math/bits.Add64", "math/bits.Sub64"], unfollowed := true, recurses := true, apart := false }
def RoundFusedSaid : Prop := roundFusedRow.holds Try.pinned (OpenSpec.ofChange roundFusedSpec)

/-- ITS FALSE NEIGHBOUR: 'it returns false'. Refute it at one input. -/
def roundFusedWrong : ChangeSpec := { name := "roundFused", fn := fun _ => fun
  | [d1, d2, d3, d4] => { results := [.lit (.bool false)], args := [d1, d2, d3, d4] }
  | _ => none }
def RoundFusedWrongFalsely : Prop := roundFusedRow.holds Try.pinned (OpenSpec.ofChange roundFusedWrong)

/- THE SECOND FORM. 'bulk': how many values and letters a reading holds, each counted each time it is reached (what is shared counts as often as it is met; a slice's spare places count too). A statement '..UptoSaid' is the law's where the arguments, and the package variables that the reading takes, are together of bulk at most 1048576: NARROWER than '..Said'. Prove '..Said' where nothing that the law and all that it calls make is longer than what came in: it says more and counts as full. Else prove '..UptoSaid'. A law counts once. -/
mutual
def uptoBulk {H : Type} : DataW H → Nat
  | .lit (.string bytes) => bytes.length + 1
  | .lit _ => 1
  | .nil => 1
  | .ptr d => uptoBulk d + 1
  | .slice elems spare => uptoBulkAll elems + uptoBulkAll spare + 1
  | .agg parts => uptoBulkAll parts + 1
  | .iface _ d => uptoBulk d + 1
  | .map entries => uptoBulkEntries entries + 1
  | .held _ => 1
def uptoBulkAll {H : Type} : List (DataW H) → Nat
  | [] => 0
  | d :: r => uptoBulk d + uptoBulkAll r
def uptoBulkEntries {H : Type} : List (Lit × DataW H) → Nat
  | [] => 0
  | x :: r => uptoBulkEntry x + uptoBulkEntries r
def uptoBulkEntry {H : Type} : Lit × DataW H → Nat
  | (.string bytes, d) => bytes.length + uptoBulk d + 1
  | (_, d) => uptoBulk d + 1
 end
def uptoSmall : (H : Type) → List (DataW H) → Bool := fun _ ds => decide (uptoBulkAll ds ≤ 1048576)
def OpenSpec.upto (s : _root_.Go.ChangeSpec) : _root_.Go.OpenSpec := { _root_.Go.OpenSpec.ofChange s with cond := some uptoSmall }

/-- 'latticelaw02.RoundFmas', WHERE WHAT IT READS IS OF BULK AT MOST 1048576: true; the input reads as it did. -/
def roundFmasUptoRow : OpenClaim := { program := "ytanccobllehnaaa", sum := "43006eb9ef7e475f0dbfa53c7277c2c72e61630b11849c50615b136a7450a117", func := "lattice/latticelaw02.RoundFmas", spec := "roundFmas", inPlace := ["math/bits.Add64", "math/bits.Sub64"], unfollowed := true, recurses := true, apart := false, narrowed := true }
def RoundFmasUptoSaid : Prop := roundFmasUptoRow.holds Try.pinned (OpenSpec.upto roundFmasSpec)

/-- 'latticelaw02.RoundRoots', WHERE WHAT IT READS IS OF BULK AT MOST 1048576: true; the input reads as it did. -/
def roundRootsUptoRow : OpenClaim := { program := "ytanccobllehnaaa", sum := "43006eb9ef7e475f0dbfa53c7277c2c72e61630b11849c50615b136a7450a117", func := "lattice/latticelaw02.RoundRoots", spec := "roundRoots", inPlace := ["math/bits.Add64", "math/bits.Sub64"], unfollowed := true, recurses := true, apart := false, narrowed := true }
def RoundRootsUptoSaid : Prop := roundRootsUptoRow.holds Try.pinned (OpenSpec.upto roundRootsSpec)

/-- 'latticelaw02.RoundInts', WHERE WHAT IT READS IS OF BULK AT MOST 1048576: true; the input reads as it did. -/
def roundIntsUptoRow : OpenClaim := { program := "ytanccobllehnaaa", sum := "43006eb9ef7e475f0dbfa53c7277c2c72e61630b11849c50615b136a7450a117", func := "lattice/latticelaw02.RoundInts", spec := "roundInts", inPlace := ["math/bits.Add64", "math/bits.Sub64"], unfollowed := true, recurses := true, apart := false, narrowed := true }
def RoundIntsUptoSaid : Prop := roundIntsUptoRow.holds Try.pinned (OpenSpec.upto roundIntsSpec)

/-- 'latticelaw02.RoundScales', WHERE WHAT IT READS IS OF BULK AT MOST 1048576: true; the input reads as it did. -/
def roundScalesUptoRow : OpenClaim := { program := "ytanccobllehnaaa", sum := "43006eb9ef7e475f0dbfa53c7277c2c72e61630b11849c50615b136a7450a117", func := "lattice/latticelaw02.RoundScales", spec := "roundScales", inPlace := ["math/bits.Add64", "math/bits.Sub64"], unfollowed := true, recurses := true, apart := false, narrowed := true }
def RoundScalesUptoSaid : Prop := roundScalesUptoRow.holds Try.pinned (OpenSpec.upto roundScalesSpec)

/-- 'latticelaw02.RoundWholes', WHERE WHAT IT READS IS OF BULK AT MOST 1048576: true; the input reads as it did. -/
def roundWholesUptoRow : OpenClaim := { program := "ytanccobllehnaaa", sum := "43006eb9ef7e475f0dbfa53c7277c2c72e61630b11849c50615b136a7450a117", func := "lattice/latticelaw02.RoundWholes", spec := "roundWholes", inPlace := ["math/bits.Add64", "math/bits.Sub64"], unfollowed := true, recurses := true, apart := false, narrowed := true }
def RoundWholesUptoSaid : Prop := roundWholesUptoRow.holds Try.pinned (OpenSpec.upto roundWholesSpec)

/-- 'latticelaw02.RoundSquares', WHERE WHAT IT READS IS OF BULK AT MOST 1048576: true; the input reads as it did. -/
def roundSquaresUptoRow : OpenClaim := { program := "ytanccobllehnaaa", sum := "43006eb9ef7e475f0dbfa53c7277c2c72e61630b11849c50615b136a7450a117", func := "lattice/latticelaw02.RoundSquares", spec := "roundSquares", inPlace := ["math/bits.Add64", "math/bits.Sub64"], unfollowed := true, recurses := true, apart := false, narrowed := true }
def RoundSquaresUptoSaid : Prop := roundSquaresUptoRow.holds Try.pinned (OpenSpec.upto roundSquaresSpec)

/-- 'latticelaw02.RoundBack', WHERE WHAT IT READS IS OF BULK AT MOST 1048576: true; the input reads as it did. -/
def roundBackUptoRow : OpenClaim := { program := "ytanccobllehnaaa", sum := "43006eb9ef7e475f0dbfa53c7277c2c72e61630b11849c50615b136a7450a117", func := "lattice/latticelaw02.RoundBack", spec := "roundBack", inPlace := ["math/bits.Add64", "math/bits.Sub64"], unfollowed := true, recurses := true, apart := false, narrowed := true }
def RoundBackUptoSaid : Prop := roundBackUptoRow.holds Try.pinned (OpenSpec.upto roundBackSpec)

/-- 'latticelaw02.RoundFused', WHERE WHAT IT READS IS OF BULK AT MOST 1048576: true; the input reads as it did. -/
def roundFusedUptoRow : OpenClaim := { program := "ytanccobllehnaaa", sum := "43006eb9ef7e475f0dbfa53c7277c2c72e61630b11849c50615b136a7450a117", func := "lattice/latticelaw02.RoundFused", spec := "roundFused", inPlace := ["math/bits.Add64", "math/bits.Sub64"], unfollowed := true, recurses := true, apart := false, narrowed := true }
def RoundFusedUptoSaid : Prop := roundFusedUptoRow.holds Try.pinned (OpenSpec.upto roundFusedSpec)

end Rows
end Go.Proofs.Ytanccobllehnaaa
