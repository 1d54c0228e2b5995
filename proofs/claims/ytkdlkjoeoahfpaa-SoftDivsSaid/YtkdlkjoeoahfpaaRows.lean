/-
  No cell of these rows narrows 'for every input' (looked for: loops, veiled, ifaces, maps, wideKeys, modest, calm, conditions, laid).
  DERIVED. THE GIVEN ROWS OF THIS SEAT. 10 by the template 'for every input the law returns true; each argument reads behind the call as it read before'; 0 by the template 'total and deterministic' (their statements: YtkdlkjoeoahfpaaTotals.lean).
  GIVEN WITH THE SEED: the statements are not yours to turn. If you find one false, say at which input.
  Laid BY PROGRAM, IN A SANDBOX (cutbox-rows.mjs): the forced cells as the released guide's own fill.sh prints them over the translation 7af7ac2ab3c230fc… (all of the seat's roots in one cut). By AI agents, Wed Nov 11 2026. No macro, syntax, notation, axiom, sorry.
-/
import Derived.Test.YtkdlkjoeoahfpaaChecked
import GoSem.Claim
import GoSem.ClaimJoined
import GoSem.ClaimMapViews
import Derived.JoinedTies
import Derived.KernelRfl
namespace Go.Proofs.Ytkdlkjoeoahfpaa
/- THE CELL 'sum', in the pinned program and in every row, IS THE sha256 OF THE DUMP (.gsa) THAT YtkdlkjoeoahfpaaProg.lean LOADS. Nothing in Lean hashes anything: it is a label: what it is worth is what the hold of that sum in a sandbox is worth. -/
noncomputable def Try.pinned : Pinned := { name := "ytkdlkjoeoahfpaa", sum := "7af7ac2ab3c230fccb58595d01d87550c4d7e01e575a38b7ef9068fb7bef8dcd", checked := Try.checked }
namespace Rows
def none {H : Type} : Left H := { results := [], args := [] }

/-- 'latticelaw01.SoftNames': WHATEVER THE INPUT: true; the input reads as it did. -/
def softNamesSpec : ChangeSpec := { name := "softNames", fn := fun _ => fun
  | [] => { results := [.lit (.bool true)], args := [] }
  | _ => none }
def softNamesRow : OpenClaim := { program := "ytkdlkjoeoahfpaa", sum := "7af7ac2ab3c230fccb58595d01d87550c4d7e01e575a38b7ef9068fb7bef8dcd", func := "lattice/latticelaw01.SoftNames", spec := "softNames", apart := false }
def SoftNamesSaid : Prop := softNamesRow.holds Try.pinned (OpenSpec.ofChange softNamesSpec)

/-- ITS FALSE NEIGHBOUR: 'it returns false'. Refute it at one input. -/
def softNamesWrong : ChangeSpec := { name := "softNames", fn := fun _ => fun
  | [] => { results := [.lit (.bool false)], args := [] }
  | _ => none }
def SoftNamesWrongFalsely : Prop := softNamesRow.holds Try.pinned (OpenSpec.ofChange softNamesWrong)

/-- 'latticelaw01.SoftRounds': WHATEVER THE INPUT: true; the input reads as it did. -/
def softRoundsSpec : ChangeSpec := { name := "softRounds", fn := fun _ => fun
  | [d1, d2, d3, d4, d5] => { results := [.lit (.bool true)], args := [d1, d2, d3, d4, d5] }
  | _ => none }
def softRoundsRow : OpenClaim := { program := "ytkdlkjoeoahfpaa", sum := "7af7ac2ab3c230fccb58595d01d87550c4d7e01e575a38b7ef9068fb7bef8dcd", func := "lattice/latticelaw01.SoftRounds", spec := "softRounds", apart := false }
def SoftRoundsSaid : Prop := softRoundsRow.holds Try.pinned (OpenSpec.ofChange softRoundsSpec)

/-- ITS FALSE NEIGHBOUR: 'it returns false'. Refute it at one input. -/
def softRoundsWrong : ChangeSpec := { name := "softRounds", fn := fun _ => fun
  | [d1, d2, d3, d4, d5] => { results := [.lit (.bool false)], args := [d1, d2, d3, d4, d5] }
  | _ => none }
def SoftRoundsWrongFalsely : Prop := softRoundsRow.holds Try.pinned (OpenSpec.ofChange softRoundsWrong)

/-- 'latticelaw01.SoftDivs': WHATEVER THE INPUT: true; the input reads as it did. -/
def softDivsSpec : ChangeSpec := { name := "softDivs", fn := fun _ => fun
  | [d1, d2, d3] => { results := [.lit (.bool true)], args := [d1, d2, d3] }
  | _ => none }
def softDivsRow : OpenClaim := { program := "ytkdlkjoeoahfpaa", sum := "7af7ac2ab3c230fccb58595d01d87550c4d7e01e575a38b7ef9068fb7bef8dcd", func := "lattice/latticelaw01.SoftDivs", spec := "softDivs", apart := false }
def SoftDivsSaid : Prop := softDivsRow.holds Try.pinned (OpenSpec.ofChange softDivsSpec)

/-- ITS FALSE NEIGHBOUR: 'it returns false'. Refute it at one input. -/
def softDivsWrong : ChangeSpec := { name := "softDivs", fn := fun _ => fun
  | [d1, d2, d3] => { results := [.lit (.bool false)], args := [d1, d2, d3] }
  | _ => none }
def SoftDivsWrongFalsely : Prop := softDivsRow.holds Try.pinned (OpenSpec.ofChange softDivsWrong)

/-- 'latticelaw01.SoftKeeps': WHATEVER THE INPUT: true; the input reads as it did. -/
def softKeepsSpec : ChangeSpec := { name := "softKeeps", fn := fun _ => fun
  | [d1, d2, d3, d4] => { results := [.lit (.bool true)], args := [d1, d2, d3, d4] }
  | _ => none }
def softKeepsRow : OpenClaim := { program := "ytkdlkjoeoahfpaa", sum := "7af7ac2ab3c230fccb58595d01d87550c4d7e01e575a38b7ef9068fb7bef8dcd", func := "lattice/latticelaw01.SoftKeeps", spec := "softKeeps", apart := false }
def SoftKeepsSaid : Prop := softKeepsRow.holds Try.pinned (OpenSpec.ofChange softKeepsSpec)

/-- ITS FALSE NEIGHBOUR: 'it returns false'. Refute it at one input. -/
def softKeepsWrong : ChangeSpec := { name := "softKeeps", fn := fun _ => fun
  | [d1, d2, d3, d4] => { results := [.lit (.bool false)], args := [d1, d2, d3, d4] }
  | _ => none }
def SoftKeepsWrongFalsely : Prop := softKeepsRow.holds Try.pinned (OpenSpec.ofChange softKeepsWrong)

/-- 'latticelaw01.SoftMuls': WHATEVER THE INPUT: true; the input reads as it did. -/
def softMulsSpec : ChangeSpec := { name := "softMuls", fn := fun _ => fun
  | [d1, d2, d3] => { results := [.lit (.bool true)], args := [d1, d2, d3] }
  | _ => none }
def softMulsRow : OpenClaim := { program := "ytkdlkjoeoahfpaa", sum := "7af7ac2ab3c230fccb58595d01d87550c4d7e01e575a38b7ef9068fb7bef8dcd", func := "lattice/latticelaw01.SoftMuls", spec := "softMuls", apart := false }
def SoftMulsSaid : Prop := softMulsRow.holds Try.pinned (OpenSpec.ofChange softMulsSpec)

/-- ITS FALSE NEIGHBOUR: 'it returns false'. Refute it at one input. -/
def softMulsWrong : ChangeSpec := { name := "softMuls", fn := fun _ => fun
  | [d1, d2, d3] => { results := [.lit (.bool false)], args := [d1, d2, d3] }
  | _ => none }
def SoftMulsWrongFalsely : Prop := softMulsRow.holds Try.pinned (OpenSpec.ofChange softMulsWrong)

/-- 'latticelaw01.SoftAdds': WHATEVER THE INPUT: true; the input reads as it did. -/
def softAddsSpec : ChangeSpec := { name := "softAdds", fn := fun _ => fun
  | [d1, d2, d3] => { results := [.lit (.bool true)], args := [d1, d2, d3] }
  | _ => none }
def softAddsRow : OpenClaim := { program := "ytkdlkjoeoahfpaa", sum := "7af7ac2ab3c230fccb58595d01d87550c4d7e01e575a38b7ef9068fb7bef8dcd", func := "lattice/latticelaw01.SoftAdds", spec := "softAdds", apart := false }
def SoftAddsSaid : Prop := softAddsRow.holds Try.pinned (OpenSpec.ofChange softAddsSpec)

/-- ITS FALSE NEIGHBOUR: 'it returns false'. Refute it at one input. -/
def softAddsWrong : ChangeSpec := { name := "softAdds", fn := fun _ => fun
  | [d1, d2, d3] => { results := [.lit (.bool false)], args := [d1, d2, d3] }
  | _ => none }
def SoftAddsWrongFalsely : Prop := softAddsRow.holds Try.pinned (OpenSpec.ofChange softAddsWrong)

/-- 'latticelaw01.SoftHolds': WHATEVER THE INPUT: true; the input reads as it did. -/
def softHoldsSpec : ChangeSpec := { name := "softHolds", fn := fun _ => fun
  | [d1, d2] => { results := [.lit (.bool true)], args := [d1, d2] }
  | _ => none }
def softHoldsRow : OpenClaim := { program := "ytkdlkjoeoahfpaa", sum := "7af7ac2ab3c230fccb58595d01d87550c4d7e01e575a38b7ef9068fb7bef8dcd", func := "lattice/latticelaw01.SoftHolds", spec := "softHolds", apart := false }
def SoftHoldsSaid : Prop := softHoldsRow.holds Try.pinned (OpenSpec.ofChange softHoldsSpec)

/-- ITS FALSE NEIGHBOUR: 'it returns false'. Refute it at one input. -/
def softHoldsWrong : ChangeSpec := { name := "softHolds", fn := fun _ => fun
  | [d1, d2] => { results := [.lit (.bool false)], args := [d1, d2] }
  | _ => none }
def SoftHoldsWrongFalsely : Prop := softHoldsRow.holds Try.pinned (OpenSpec.ofChange softHoldsWrong)

/-- 'latticelaw01.SoftSterbenz': WHATEVER THE INPUT: true; the input reads as it did. -/
def softSterbenzSpec : ChangeSpec := { name := "softSterbenz", fn := fun _ => fun
  | [d1, d2] => { results := [.lit (.bool true)], args := [d1, d2] }
  | _ => none }
def softSterbenzRow : OpenClaim := { program := "ytkdlkjoeoahfpaa", sum := "7af7ac2ab3c230fccb58595d01d87550c4d7e01e575a38b7ef9068fb7bef8dcd", func := "lattice/latticelaw01.SoftSterbenz", spec := "softSterbenz", apart := false }
def SoftSterbenzSaid : Prop := softSterbenzRow.holds Try.pinned (OpenSpec.ofChange softSterbenzSpec)

/-- ITS FALSE NEIGHBOUR: 'it returns false'. Refute it at one input. -/
def softSterbenzWrong : ChangeSpec := { name := "softSterbenz", fn := fun _ => fun
  | [d1, d2] => { results := [.lit (.bool false)], args := [d1, d2] }
  | _ => none }
def SoftSterbenzWrongFalsely : Prop := softSterbenzRow.holds Try.pinned (OpenSpec.ofChange softSterbenzWrong)

/-- 'latticelaw01.SoftSwaps': WHATEVER THE INPUT: true; the input reads as it did. -/
def softSwapsSpec : ChangeSpec := { name := "softSwaps", fn := fun _ => fun
  | [d1, d2, d3] => { results := [.lit (.bool true)], args := [d1, d2, d3] }
  | _ => none }
def softSwapsRow : OpenClaim := { program := "ytkdlkjoeoahfpaa", sum := "7af7ac2ab3c230fccb58595d01d87550c4d7e01e575a38b7ef9068fb7bef8dcd", func := "lattice/latticelaw01.SoftSwaps", spec := "softSwaps", apart := false }
def SoftSwapsSaid : Prop := softSwapsRow.holds Try.pinned (OpenSpec.ofChange softSwapsSpec)

/-- ITS FALSE NEIGHBOUR: 'it returns false'. Refute it at one input. -/
def softSwapsWrong : ChangeSpec := { name := "softSwaps", fn := fun _ => fun
  | [d1, d2, d3] => { results := [.lit (.bool false)], args := [d1, d2, d3] }
  | _ => none }
def SoftSwapsWrongFalsely : Prop := softSwapsRow.holds Try.pinned (OpenSpec.ofChange softSwapsWrong)

/-- 'latticelaw01.SoftLooks': WHATEVER THE INPUT: true; the input reads as it did. -/
def softLooksSpec : ChangeSpec := { name := "softLooks", fn := fun _ => fun
  | [d1, d2] => { results := [.lit (.bool true)], args := [d1, d2] }
  | _ => none }
def softLooksRow : OpenClaim := { program := "ytkdlkjoeoahfpaa", sum := "7af7ac2ab3c230fccb58595d01d87550c4d7e01e575a38b7ef9068fb7bef8dcd", func := "lattice/latticelaw01.SoftLooks", spec := "softLooks", apart := false }
def SoftLooksSaid : Prop := softLooksRow.holds Try.pinned (OpenSpec.ofChange softLooksSpec)

/-- ITS FALSE NEIGHBOUR: 'it returns false'. Refute it at one input. -/
def softLooksWrong : ChangeSpec := { name := "softLooks", fn := fun _ => fun
  | [d1, d2] => { results := [.lit (.bool false)], args := [d1, d2] }
  | _ => none }
def SoftLooksWrongFalsely : Prop := softLooksRow.holds Try.pinned (OpenSpec.ofChange softLooksWrong)

/- THE SECOND FORM. 'bulk': how many values and letters a reading holds, each counted each time it is reached (what is shared counts as often as it is met; a slice's spare places count too). A statement '..UptoSaid' is the law's where the arguments, and the package variables that the reading takes, are together of bulk at most 1048576: NARROWER than '..Said'. Prove '..Said' where nothing that the law and all that it calls make is longer than what came in: it says more and counts as full. Else prove '..UptoSaid'. A law counts once. -/
mutual
def uptoBulk {H : Type} : DataW H → Nat
  | .lit (.string bytes) => bytes.length + 1
  | .lit _ => 1
  | .nil => 1
  | .ptr d => uptoBulk d + 1
  | .slice elems spare => uptoBulkAll elems + uptoBulkAll spare + 1
  | .agg parts => uptoBulkAll parts + 1
  | .iface _ d => uptoBulk d + 1
  | .map entries => uptoBulkEntries entries + 1
  | .held _ => 1
def uptoBulkAll {H : Type} : List (DataW H) → Nat
  | [] => 0
  | d :: r => uptoBulk d + uptoBulkAll r
def uptoBulkEntries {H : Type} : List (Lit × DataW H) → Nat
  | [] => 0
  | x :: r => uptoBulkEntry x + uptoBulkEntries r
def uptoBulkEntry {H : Type} : Lit × DataW H → Nat
  | (.string bytes, d) => bytes.length + uptoBulk d + 1
  | (_, d) => uptoBulk d + 1
 end
def uptoSmall : (H : Type) → List (DataW H) → Bool := fun _ ds => decide (uptoBulkAll ds ≤ 1048576)
def OpenSpec.upto (s : _root_.Go.ChangeSpec) : _root_.Go.OpenSpec := { _root_.Go.OpenSpec.ofChange s with cond := some uptoSmall }

/-- 'latticelaw01.SoftNames', WHERE WHAT IT READS IS OF BULK AT MOST 1048576: true; the input reads as it did. -/
def softNamesUptoRow : OpenClaim := { program := "ytkdlkjoeoahfpaa", sum := "7af7ac2ab3c230fccb58595d01d87550c4d7e01e575a38b7ef9068fb7bef8dcd", func := "lattice/latticelaw01.SoftNames", spec := "softNames", apart := false, narrowed := true }
def SoftNamesUptoSaid : Prop := softNamesUptoRow.holds Try.pinned (OpenSpec.upto softNamesSpec)

/-- 'latticelaw01.SoftRounds', WHERE WHAT IT READS IS OF BULK AT MOST 1048576: true; the input reads as it did. -/
def softRoundsUptoRow : OpenClaim := { program := "ytkdlkjoeoahfpaa", sum := "7af7ac2ab3c230fccb58595d01d87550c4d7e01e575a38b7ef9068fb7bef8dcd", func := "lattice/latticelaw01.SoftRounds", spec := "softRounds", apart := false, narrowed := true }
def SoftRoundsUptoSaid : Prop := softRoundsUptoRow.holds Try.pinned (OpenSpec.upto softRoundsSpec)

/-- 'latticelaw01.SoftDivs', WHERE WHAT IT READS IS OF BULK AT MOST 1048576: true; the input reads as it did. -/
def softDivsUptoRow : OpenClaim := { program := "ytkdlkjoeoahfpaa", sum := "7af7ac2ab3c230fccb58595d01d87550c4d7e01e575a38b7ef9068fb7bef8dcd", func := "lattice/latticelaw01.SoftDivs", spec := "softDivs", apart := false, narrowed := true }
def SoftDivsUptoSaid : Prop := softDivsUptoRow.holds Try.pinned (OpenSpec.upto softDivsSpec)

/-- 'latticelaw01.SoftKeeps', WHERE WHAT IT READS IS OF BULK AT MOST 1048576: true; the input reads as it did. -/
def softKeepsUptoRow : OpenClaim := { program := "ytkdlkjoeoahfpaa", sum := "7af7ac2ab3c230fccb58595d01d87550c4d7e01e575a38b7ef9068fb7bef8dcd", func := "lattice/latticelaw01.SoftKeeps", spec := "softKeeps", apart := false, narrowed := true }
def SoftKeepsUptoSaid : Prop := softKeepsUptoRow.holds Try.pinned (OpenSpec.upto softKeepsSpec)

/-- 'latticelaw01.SoftMuls', WHERE WHAT IT READS IS OF BULK AT MOST 1048576: true; the input reads as it did. -/
def softMulsUptoRow : OpenClaim := { program := "ytkdlkjoeoahfpaa", sum := "7af7ac2ab3c230fccb58595d01d87550c4d7e01e575a38b7ef9068fb7bef8dcd", func := "lattice/latticelaw01.SoftMuls", spec := "softMuls", apart := false, narrowed := true }
def SoftMulsUptoSaid : Prop := softMulsUptoRow.holds Try.pinned (OpenSpec.upto softMulsSpec)

/-- 'latticelaw01.SoftAdds', WHERE WHAT IT READS IS OF BULK AT MOST 1048576: true; the input reads as it did. -/
def softAddsUptoRow : OpenClaim := { program := "ytkdlkjoeoahfpaa", sum := "7af7ac2ab3c230fccb58595d01d87550c4d7e01e575a38b7ef9068fb7bef8dcd", func := "lattice/latticelaw01.SoftAdds", spec := "softAdds", apart := false, narrowed := true }
def SoftAddsUptoSaid : Prop := softAddsUptoRow.holds Try.pinned (OpenSpec.upto softAddsSpec)

/-- 'latticelaw01.SoftHolds', WHERE WHAT IT READS IS OF BULK AT MOST 1048576: true; the input reads as it did. -/
def softHoldsUptoRow : OpenClaim := { program := "ytkdlkjoeoahfpaa", sum := "7af7ac2ab3c230fccb58595d01d87550c4d7e01e575a38b7ef9068fb7bef8dcd", func := "lattice/latticelaw01.SoftHolds", spec := "softHolds", apart := false, narrowed := true }
def SoftHoldsUptoSaid : Prop := softHoldsUptoRow.holds Try.pinned (OpenSpec.upto softHoldsSpec)

/-- 'latticelaw01.SoftSterbenz', WHERE WHAT IT READS IS OF BULK AT MOST 1048576: true; the input reads as it did. -/
def softSterbenzUptoRow : OpenClaim := { program := "ytkdlkjoeoahfpaa", sum := "7af7ac2ab3c230fccb58595d01d87550c4d7e01e575a38b7ef9068fb7bef8dcd", func := "lattice/latticelaw01.SoftSterbenz", spec := "softSterbenz", apart := false, narrowed := true }
def SoftSterbenzUptoSaid : Prop := softSterbenzUptoRow.holds Try.pinned (OpenSpec.upto softSterbenzSpec)

/-- 'latticelaw01.SoftSwaps', WHERE WHAT IT READS IS OF BULK AT MOST 1048576: true; the input reads as it did. -/
def softSwapsUptoRow : OpenClaim := { program := "ytkdlkjoeoahfpaa", sum := "7af7ac2ab3c230fccb58595d01d87550c4d7e01e575a38b7ef9068fb7bef8dcd", func := "lattice/latticelaw01.SoftSwaps", spec := "softSwaps", apart := false, narrowed := true }
def SoftSwapsUptoSaid : Prop := softSwapsUptoRow.holds Try.pinned (OpenSpec.upto softSwapsSpec)

/-- 'latticelaw01.SoftLooks', WHERE WHAT IT READS IS OF BULK AT MOST 1048576: true; the input reads as it did. -/
def softLooksUptoRow : OpenClaim := { program := "ytkdlkjoeoahfpaa", sum := "7af7ac2ab3c230fccb58595d01d87550c4d7e01e575a38b7ef9068fb7bef8dcd", func := "lattice/latticelaw01.SoftLooks", spec := "softLooks", apart := false, narrowed := true }
def SoftLooksUptoSaid : Prop := softLooksUptoRow.holds Try.pinned (OpenSpec.upto softLooksSpec)

end Rows
end Go.Proofs.Ytkdlkjoeoahfpaa
