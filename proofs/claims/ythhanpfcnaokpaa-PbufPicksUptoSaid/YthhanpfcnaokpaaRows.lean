/-
  No cell of these rows narrows 'for every input' (looked for: loops, veiled, ifaces, maps, wideKeys, modest, calm, conditions, laid).
  DERIVED. THE GIVEN ROWS OF THIS SEAT. 9 by the template 'for every input the law returns true; each argument reads behind the call as it read before'; 0 by the template 'total and deterministic' (their statements: YthhanpfcnaokpaaTotals.lean).
  GIVEN WITH THE SEED: the statements are not yours to turn. If you find one false, say at which input.
  Laid BY PROGRAM, IN A SANDBOX (cutbox-rows.mjs): the forced cells as the released guide's own fill.sh prints them over the translation 987e8aabdc09305e… (all of the seat's roots in one cut). By AI agents, Wed Nov 11 2026. No macro, syntax, notation, axiom, sorry.
-/
import Derived.Test.YthhanpfcnaokpaaChecked
import GoSem.Claim
import GoSem.ClaimJoined
import GoSem.ClaimMapViews
import Derived.JoinedTies
import Derived.KernelRfl
namespace Go.Proofs.Ythhanpfcnaokpaa
/- THE CELL 'sum', in the pinned program and in every row, IS THE sha256 OF THE DUMP (.gsa) THAT YthhanpfcnaokpaaProg.lean LOADS. Nothing in Lean hashes anything: it is a label: what it is worth is what the hold of that sum in a sandbox is worth. -/
noncomputable def Try.pinned : Pinned := { name := "ythhanpfcnaokpaa", sum := "987e8aabdc09305e99708c2cb8550955627d6f6b07122b9b9dd249e888b9551e", checked := Try.checked }
namespace Rows
def none {H : Type} : Left H := { results := [], args := [] }

/-- 'latticelaw06.PbufNames': WHATEVER THE INPUT: true; the input reads as it did. -/
def pbufNamesSpec : ChangeSpec := { name := "pbufNames", fn := fun _ => fun
  | [] => { results := [.lit (.bool true)], args := [] }
  | _ => none }
def pbufNamesRow : OpenClaim := { program := "ythhanpfcnaokpaa", sum := "987e8aabdc09305e99708c2cb8550955627d6f6b07122b9b9dd249e888b9551e", func := "lattice/latticelaw06.PbufNames", spec := "pbufNames", apart := false }
def PbufNamesSaid : Prop := pbufNamesRow.holds Try.pinned (OpenSpec.ofChange pbufNamesSpec)

/-- ITS FALSE NEIGHBOUR: 'it returns false'. Refute it at one input. -/
def pbufNamesWrong : ChangeSpec := { name := "pbufNames", fn := fun _ => fun
  | [] => { results := [.lit (.bool false)], args := [] }
  | _ => none }
def PbufNamesWrongFalsely : Prop := pbufNamesRow.holds Try.pinned (OpenSpec.ofChange pbufNamesWrong)

/-- 'latticelaw06.PbufVarints': WHATEVER THE INPUT: true; the input reads as it did. -/
def pbufVarintsSpec : ChangeSpec := { name := "pbufVarints", fn := fun _ => fun
  | [d1, d2, d3] => { results := [.lit (.bool true)], args := [d1, d2, d3] }
  | _ => none }
def pbufVarintsRow : OpenClaim := { program := "ythhanpfcnaokpaa", sum := "987e8aabdc09305e99708c2cb8550955627d6f6b07122b9b9dd249e888b9551e", func := "lattice/latticelaw06.PbufVarints", spec := "pbufVarints", apart := false }
def PbufVarintsSaid : Prop := pbufVarintsRow.holds Try.pinned (OpenSpec.ofChange pbufVarintsSpec)

/-- ITS FALSE NEIGHBOUR: 'it returns false'. Refute it at one input. -/
def pbufVarintsWrong : ChangeSpec := { name := "pbufVarints", fn := fun _ => fun
  | [d1, d2, d3] => { results := [.lit (.bool false)], args := [d1, d2, d3] }
  | _ => none }
def PbufVarintsWrongFalsely : Prop := pbufVarintsRow.holds Try.pinned (OpenSpec.ofChange pbufVarintsWrong)

/-- 'latticelaw06.PbufReads': WHATEVER THE INPUT: true; the input reads as it did. -/
def pbufReadsSpec : ChangeSpec := { name := "pbufReads", fn := fun _ => fun
  | [d] => { results := [.lit (.bool true)], args := [d] }
  | _ => none }
def pbufReadsRow : OpenClaim := { program := "ythhanpfcnaokpaa", sum := "987e8aabdc09305e99708c2cb8550955627d6f6b07122b9b9dd249e888b9551e", func := "lattice/latticelaw06.PbufReads", spec := "pbufReads", apart := false }
def PbufReadsSaid : Prop := pbufReadsRow.holds Try.pinned (OpenSpec.ofChange pbufReadsSpec)

/-- ITS FALSE NEIGHBOUR: 'it returns false'. Refute it at one input. -/
def pbufReadsWrong : ChangeSpec := { name := "pbufReads", fn := fun _ => fun
  | [d] => { results := [.lit (.bool false)], args := [d] }
  | _ => none }
def PbufReadsWrongFalsely : Prop := pbufReadsRow.holds Try.pinned (OpenSpec.ofChange pbufReadsWrong)

/-- 'latticelaw06.PbufWrites': WHATEVER THE INPUT: true; the input reads as it did. -/
def pbufWritesSpec : ChangeSpec := { name := "pbufWrites", fn := fun _ => fun
  | [d] => { results := [.lit (.bool true)], args := [d] }
  | _ => none }
def pbufWritesRow : OpenClaim := { program := "ythhanpfcnaokpaa", sum := "987e8aabdc09305e99708c2cb8550955627d6f6b07122b9b9dd249e888b9551e", func := "lattice/latticelaw06.PbufWrites", spec := "pbufWrites", apart := false }
def PbufWritesSaid : Prop := pbufWritesRow.holds Try.pinned (OpenSpec.ofChange pbufWritesSpec)

/-- ITS FALSE NEIGHBOUR: 'it returns false'. Refute it at one input. -/
def pbufWritesWrong : ChangeSpec := { name := "pbufWrites", fn := fun _ => fun
  | [d] => { results := [.lit (.bool false)], args := [d] }
  | _ => none }
def PbufWritesWrongFalsely : Prop := pbufWritesRow.holds Try.pinned (OpenSpec.ofChange pbufWritesWrong)

/-- 'latticelaw06.PbufBack': WHATEVER THE INPUT: true; the input reads as it did. -/
def pbufBackSpec : ChangeSpec := { name := "pbufBack", fn := fun _ => fun
  | [d] => { results := [.lit (.bool true)], args := [d] }
  | _ => none }
def pbufBackRow : OpenClaim := { program := "ythhanpfcnaokpaa", sum := "987e8aabdc09305e99708c2cb8550955627d6f6b07122b9b9dd249e888b9551e", func := "lattice/latticelaw06.PbufBack", spec := "pbufBack", apart := false }
def PbufBackSaid : Prop := pbufBackRow.holds Try.pinned (OpenSpec.ofChange pbufBackSpec)

/-- ITS FALSE NEIGHBOUR: 'it returns false'. Refute it at one input. -/
def pbufBackWrong : ChangeSpec := { name := "pbufBack", fn := fun _ => fun
  | [d] => { results := [.lit (.bool false)], args := [d] }
  | _ => none }
def PbufBackWrongFalsely : Prop := pbufBackRow.holds Try.pinned (OpenSpec.ofChange pbufBackWrong)

/-- 'latticelaw06.PbufAgain': WHATEVER THE INPUT: true; the input reads as it did. -/
def pbufAgainSpec : ChangeSpec := { name := "pbufAgain", fn := fun _ => fun
  | [d] => { results := [.lit (.bool true)], args := [d] }
  | _ => none }
def pbufAgainRow : OpenClaim := { program := "ythhanpfcnaokpaa", sum := "987e8aabdc09305e99708c2cb8550955627d6f6b07122b9b9dd249e888b9551e", func := "lattice/latticelaw06.PbufAgain", spec := "pbufAgain", apart := false }
def PbufAgainSaid : Prop := pbufAgainRow.holds Try.pinned (OpenSpec.ofChange pbufAgainSpec)

/-- ITS FALSE NEIGHBOUR: 'it returns false'. Refute it at one input. -/
def pbufAgainWrong : ChangeSpec := { name := "pbufAgain", fn := fun _ => fun
  | [d] => { results := [.lit (.bool false)], args := [d] }
  | _ => none }
def PbufAgainWrongFalsely : Prop := pbufAgainRow.holds Try.pinned (OpenSpec.ofChange pbufAgainWrong)

/-- 'latticelaw06.PbufJoins': WHATEVER THE INPUT: true; the input reads as it did. -/
def pbufJoinsSpec : ChangeSpec := { name := "pbufJoins", fn := fun _ => fun
  | [d1, d2, d3] => { results := [.lit (.bool true)], args := [d1, d2, d3] }
  | _ => none }
def pbufJoinsRow : OpenClaim := { program := "ythhanpfcnaokpaa", sum := "987e8aabdc09305e99708c2cb8550955627d6f6b07122b9b9dd249e888b9551e", func := "lattice/latticelaw06.PbufJoins", spec := "pbufJoins", apart := false }
def PbufJoinsSaid : Prop := pbufJoinsRow.holds Try.pinned (OpenSpec.ofChange pbufJoinsSpec)

/-- ITS FALSE NEIGHBOUR: 'it returns false'. Refute it at one input. -/
def pbufJoinsWrong : ChangeSpec := { name := "pbufJoins", fn := fun _ => fun
  | [d1, d2, d3] => { results := [.lit (.bool false)], args := [d1, d2, d3] }
  | _ => none }
def PbufJoinsWrongFalsely : Prop := pbufJoinsRow.holds Try.pinned (OpenSpec.ofChange pbufJoinsWrong)

/-- 'latticelaw06.PbufPicks': WHATEVER THE INPUT: true; the input reads as it did. -/
def pbufPicksSpec : ChangeSpec := { name := "pbufPicks", fn := fun _ => fun
  | [d1, d2, d3] => { results := [.lit (.bool true)], args := [d1, d2, d3] }
  | _ => none }
def pbufPicksRow : OpenClaim := { program := "ythhanpfcnaokpaa", sum := "987e8aabdc09305e99708c2cb8550955627d6f6b07122b9b9dd249e888b9551e", func := "lattice/latticelaw06.PbufPicks", spec := "pbufPicks", apart := false }
def PbufPicksSaid : Prop := pbufPicksRow.holds Try.pinned (OpenSpec.ofChange pbufPicksSpec)

/-- ITS FALSE NEIGHBOUR: 'it returns false'. Refute it at one input. -/
def pbufPicksWrong : ChangeSpec := { name := "pbufPicks", fn := fun _ => fun
  | [d1, d2, d3] => { results := [.lit (.bool false)], args := [d1, d2, d3] }
  | _ => none }
def PbufPicksWrongFalsely : Prop := pbufPicksRow.holds Try.pinned (OpenSpec.ofChange pbufPicksWrong)

/-- 'latticelaw06.PbufLists': WHATEVER THE INPUT: true; the input reads as it did. -/
def pbufListsSpec : ChangeSpec := { name := "pbufLists", fn := fun _ => fun
  | [d1, d2] => { results := [.lit (.bool true)], args := [d1, d2] }
  | _ => none }
def pbufListsRow : OpenClaim := { program := "ythhanpfcnaokpaa", sum := "987e8aabdc09305e99708c2cb8550955627d6f6b07122b9b9dd249e888b9551e", func := "lattice/latticelaw06.PbufLists", spec := "pbufLists", apart := false }
def PbufListsSaid : Prop := pbufListsRow.holds Try.pinned (OpenSpec.ofChange pbufListsSpec)

/-- ITS FALSE NEIGHBOUR: 'it returns false'. Refute it at one input. -/
def pbufListsWrong : ChangeSpec := { name := "pbufLists", fn := fun _ => fun
  | [d1, d2] => { results := [.lit (.bool false)], args := [d1, d2] }
  | _ => none }
def PbufListsWrongFalsely : Prop := pbufListsRow.holds Try.pinned (OpenSpec.ofChange pbufListsWrong)

/- THE SECOND FORM. 'bulk': how many values and letters a reading holds, each counted each time it is reached (what is shared counts as often as it is met; a slice's spare places count too). A statement '..UptoSaid' is the law's where the arguments, and the package variables that the reading takes, are together of bulk at most 1048576: NARROWER than '..Said'. Prove '..Said' where nothing that the law and all that it calls make is longer than what came in: it says more and counts as full. Else prove '..UptoSaid'. A law counts once. -/
mutual
def uptoBulk {H : Type} : DataW H → Nat
  | .lit (.string bytes) => bytes.length + 1
  | .lit _ => 1
  | .nil => 1
  | .ptr d => uptoBulk d + 1
  | .slice elems spare => uptoBulkAll elems + uptoBulkAll spare + 1
  | .agg parts => uptoBulkAll parts + 1
  | .iface _ d => uptoBulk d + 1
  | .map entries => uptoBulkEntries entries + 1
  | .held _ => 1
def uptoBulkAll {H : Type} : List (DataW H) → Nat
  | [] => 0
  | d :: r => uptoBulk d + uptoBulkAll r
def uptoBulkEntries {H : Type} : List (Lit × DataW H) → Nat
  | [] => 0
  | x :: r => uptoBulkEntry x + uptoBulkEntries r
def uptoBulkEntry {H : Type} : Lit × DataW H → Nat
  | (.string bytes, d) => bytes.length + uptoBulk d + 1
  | (_, d) => uptoBulk d + 1
 end
def uptoSmall : (H : Type) → List (DataW H) → Bool := fun _ ds => decide (uptoBulkAll ds ≤ 1048576)
def OpenSpec.upto (s : _root_.Go.ChangeSpec) : _root_.Go.OpenSpec := { _root_.Go.OpenSpec.ofChange s with cond := some uptoSmall }

/-- 'latticelaw06.PbufNames', WHERE WHAT IT READS IS OF BULK AT MOST 1048576: true; the input reads as it did. -/
def pbufNamesUptoRow : OpenClaim := { program := "ythhanpfcnaokpaa", sum := "987e8aabdc09305e99708c2cb8550955627d6f6b07122b9b9dd249e888b9551e", func := "lattice/latticelaw06.PbufNames", spec := "pbufNames", apart := false, narrowed := true }
def PbufNamesUptoSaid : Prop := pbufNamesUptoRow.holds Try.pinned (OpenSpec.upto pbufNamesSpec)

/-- 'latticelaw06.PbufVarints', WHERE WHAT IT READS IS OF BULK AT MOST 1048576: true; the input reads as it did. -/
def pbufVarintsUptoRow : OpenClaim := { program := "ythhanpfcnaokpaa", sum := "987e8aabdc09305e99708c2cb8550955627d6f6b07122b9b9dd249e888b9551e", func := "lattice/latticelaw06.PbufVarints", spec := "pbufVarints", apart := false, narrowed := true }
def PbufVarintsUptoSaid : Prop := pbufVarintsUptoRow.holds Try.pinned (OpenSpec.upto pbufVarintsSpec)

/-- 'latticelaw06.PbufReads', WHERE WHAT IT READS IS OF BULK AT MOST 1048576: true; the input reads as it did. -/
def pbufReadsUptoRow : OpenClaim := { program := "ythhanpfcnaokpaa", sum := "987e8aabdc09305e99708c2cb8550955627d6f6b07122b9b9dd249e888b9551e", func := "lattice/latticelaw06.PbufReads", spec := "pbufReads", apart := false, narrowed := true }
def PbufReadsUptoSaid : Prop := pbufReadsUptoRow.holds Try.pinned (OpenSpec.upto pbufReadsSpec)

/-- 'latticelaw06.PbufWrites', WHERE WHAT IT READS IS OF BULK AT MOST 1048576: true; the input reads as it did. -/
def pbufWritesUptoRow : OpenClaim := { program := "ythhanpfcnaokpaa", sum := "987e8aabdc09305e99708c2cb8550955627d6f6b07122b9b9dd249e888b9551e", func := "lattice/latticelaw06.PbufWrites", spec := "pbufWrites", apart := false, narrowed := true }
def PbufWritesUptoSaid : Prop := pbufWritesUptoRow.holds Try.pinned (OpenSpec.upto pbufWritesSpec)

/-- 'latticelaw06.PbufBack', WHERE WHAT IT READS IS OF BULK AT MOST 1048576: true; the input reads as it did. -/
def pbufBackUptoRow : OpenClaim := { program := "ythhanpfcnaokpaa", sum := "987e8aabdc09305e99708c2cb8550955627d6f6b07122b9b9dd249e888b9551e", func := "lattice/latticelaw06.PbufBack", spec := "pbufBack", apart := false, narrowed := true }
def PbufBackUptoSaid : Prop := pbufBackUptoRow.holds Try.pinned (OpenSpec.upto pbufBackSpec)

/-- 'latticelaw06.PbufAgain', WHERE WHAT IT READS IS OF BULK AT MOST 1048576: true; the input reads as it did. -/
def pbufAgainUptoRow : OpenClaim := { program := "ythhanpfcnaokpaa", sum := "987e8aabdc09305e99708c2cb8550955627d6f6b07122b9b9dd249e888b9551e", func := "lattice/latticelaw06.PbufAgain", spec := "pbufAgain", apart := false, narrowed := true }
def PbufAgainUptoSaid : Prop := pbufAgainUptoRow.holds Try.pinned (OpenSpec.upto pbufAgainSpec)

/-- 'latticelaw06.PbufJoins', WHERE WHAT IT READS IS OF BULK AT MOST 1048576: true; the input reads as it did. -/
def pbufJoinsUptoRow : OpenClaim := { program := "ythhanpfcnaokpaa", sum := "987e8aabdc09305e99708c2cb8550955627d6f6b07122b9b9dd249e888b9551e", func := "lattice/latticelaw06.PbufJoins", spec := "pbufJoins", apart := false, narrowed := true }
def PbufJoinsUptoSaid : Prop := pbufJoinsUptoRow.holds Try.pinned (OpenSpec.upto pbufJoinsSpec)

/-- 'latticelaw06.PbufPicks', WHERE WHAT IT READS IS OF BULK AT MOST 1048576: true; the input reads as it did. -/
def pbufPicksUptoRow : OpenClaim := { program := "ythhanpfcnaokpaa", sum := "987e8aabdc09305e99708c2cb8550955627d6f6b07122b9b9dd249e888b9551e", func := "lattice/latticelaw06.PbufPicks", spec := "pbufPicks", apart := false, narrowed := true }
def PbufPicksUptoSaid : Prop := pbufPicksUptoRow.holds Try.pinned (OpenSpec.upto pbufPicksSpec)

/-- 'latticelaw06.PbufLists', WHERE WHAT IT READS IS OF BULK AT MOST 1048576: true; the input reads as it did. -/
def pbufListsUptoRow : OpenClaim := { program := "ythhanpfcnaokpaa", sum := "987e8aabdc09305e99708c2cb8550955627d6f6b07122b9b9dd249e888b9551e", func := "lattice/latticelaw06.PbufLists", spec := "pbufLists", apart := false, narrowed := true }
def PbufListsUptoSaid : Prop := pbufListsUptoRow.holds Try.pinned (OpenSpec.upto pbufListsSpec)

end Rows
end Go.Proofs.Ythhanpfcnaokpaa
