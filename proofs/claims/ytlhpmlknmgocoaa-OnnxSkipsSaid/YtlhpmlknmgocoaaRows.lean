/-
  No cell of these rows narrows 'for every input' (looked for: loops, veiled, ifaces, maps, wideKeys, modest, calm, conditions, laid).
  DERIVED. THE GIVEN ROWS OF THIS SEAT. 6 by the template 'for every input the law returns true; each argument reads behind the call as it read before'; 0 by the template 'total and deterministic' (their statements: YtlhpmlknmgocoaaTotals.lean).
  GIVEN WITH THE SEED: the statements are not yours to turn. If you find one false, say at which input.
  Laid BY PROGRAM, IN A SANDBOX (cutbox-rows.mjs): the forced cells as the released guide's own fill.sh prints them over the translation e951ea35a904f6f3… (all of the seat's roots in one cut). By AI agents, Wed Nov 11 2026. No macro, syntax, notation, axiom, sorry.
-/
import Derived.Test.YtlhpmlknmgocoaaChecked
import GoSem.Claim
import GoSem.ClaimJoined
import GoSem.ClaimMapViews
import Derived.JoinedTies
import Derived.KernelRfl
namespace Go.Proofs.Ytlhpmlknmgocoaa
/- THE CELL 'sum', in the pinned program and in every row, IS THE sha256 OF THE DUMP (.gsa) THAT YtlhpmlknmgocoaaProg.lean LOADS. Nothing in Lean hashes anything: it is a label: what it is worth is what the hold of that sum in a sandbox is worth. -/
noncomputable def Try.pinned : Pinned := { name := "ytlhpmlknmgocoaa", sum := "e951ea35a904f6f3c898549e14bde969d5ed8162c1f4cb9b13257701181654bd", checked := Try.checked }
namespace Rows
def none {H : Type} : Left H := { results := [], args := [] }

/-- 'latticelaw07.OnnxCounts': WHATEVER THE INPUT: true; the input reads as it did. -/
def onnxCountsSpec : ChangeSpec := { name := "onnxCounts", fn := fun _ => fun
  | [d] => { results := [.lit (.bool true)], args := [d] }
  | _ => none }
def onnxCountsRow : OpenClaim := { program := "ytlhpmlknmgocoaa", sum := "e951ea35a904f6f3c898549e14bde969d5ed8162c1f4cb9b13257701181654bd", func := "lattice/latticelaw07.OnnxCounts", spec := "onnxCounts", unfollowed := true, recurses := true, apart := false }
def OnnxCountsSaid : Prop := onnxCountsRow.holds Try.pinned (OpenSpec.ofChange onnxCountsSpec)

/-- ITS FALSE NEIGHBOUR: 'it returns false'. Refute it at one input. -/
def onnxCountsWrong : ChangeSpec := { name := "onnxCounts", fn := fun _ => fun
  | [d] => { results := [.lit (.bool false)], args := [d] }
  | _ => none }
def OnnxCountsWrongFalsely : Prop := onnxCountsRow.holds Try.pinned (OpenSpec.ofChange onnxCountsWrong)

/-- 'latticelaw07.OnnxBack': WHATEVER THE INPUT: true; the input reads as it did. -/
def onnxBackSpec : ChangeSpec := { name := "onnxBack", fn := fun _ => fun
  | [d] => { results := [.lit (.bool true)], args := [d] }
  | _ => none }
def onnxBackRow : OpenClaim := { program := "ytlhpmlknmgocoaa", sum := "e951ea35a904f6f3c898549e14bde969d5ed8162c1f4cb9b13257701181654bd", func := "lattice/latticelaw07.OnnxBack", spec := "onnxBack", unfollowed := true, recurses := true, apart := false }
def OnnxBackSaid : Prop := onnxBackRow.holds Try.pinned (OpenSpec.ofChange onnxBackSpec)

/-- ITS FALSE NEIGHBOUR: 'it returns false'. Refute it at one input. -/
def onnxBackWrong : ChangeSpec := { name := "onnxBack", fn := fun _ => fun
  | [d] => { results := [.lit (.bool false)], args := [d] }
  | _ => none }
def OnnxBackWrongFalsely : Prop := onnxBackRow.holds Try.pinned (OpenSpec.ofChange onnxBackWrong)

/-- 'latticelaw07.OnnxAgain': WHATEVER THE INPUT: true; the input reads as it did. -/
def onnxAgainSpec : ChangeSpec := { name := "onnxAgain", fn := fun _ => fun
  | [d] => { results := [.lit (.bool true)], args := [d] }
  | _ => none }
def onnxAgainRow : OpenClaim := { program := "ytlhpmlknmgocoaa", sum := "e951ea35a904f6f3c898549e14bde969d5ed8162c1f4cb9b13257701181654bd", func := "lattice/latticelaw07.OnnxAgain", spec := "onnxAgain", unfollowed := true, recurses := true, apart := false }
def OnnxAgainSaid : Prop := onnxAgainRow.holds Try.pinned (OpenSpec.ofChange onnxAgainSpec)

/-- ITS FALSE NEIGHBOUR: 'it returns false'. Refute it at one input. -/
def onnxAgainWrong : ChangeSpec := { name := "onnxAgain", fn := fun _ => fun
  | [d] => { results := [.lit (.bool false)], args := [d] }
  | _ => none }
def OnnxAgainWrongFalsely : Prop := onnxAgainRow.holds Try.pinned (OpenSpec.ofChange onnxAgainWrong)

/-- 'latticelaw07.OnnxSkips': WHATEVER THE INPUT: true; the input reads as it did. -/
def onnxSkipsSpec : ChangeSpec := { name := "onnxSkips", fn := fun _ => fun
  | [d1, d2, d3, d4] => { results := [.lit (.bool true)], args := [d1, d2, d3, d4] }
  | _ => none }
def onnxSkipsRow : OpenClaim := { program := "ytlhpmlknmgocoaa", sum := "e951ea35a904f6f3c898549e14bde969d5ed8162c1f4cb9b13257701181654bd", func := "lattice/latticelaw07.OnnxSkips", spec := "onnxSkips", unfollowed := true, recurses := true, apart := false }
def OnnxSkipsSaid : Prop := onnxSkipsRow.holds Try.pinned (OpenSpec.ofChange onnxSkipsSpec)

/-- ITS FALSE NEIGHBOUR: 'it returns false'. Refute it at one input. -/
def onnxSkipsWrong : ChangeSpec := { name := "onnxSkips", fn := fun _ => fun
  | [d1, d2, d3, d4] => { results := [.lit (.bool false)], args := [d1, d2, d3, d4] }
  | _ => none }
def OnnxSkipsWrongFalsely : Prop := onnxSkipsRow.holds Try.pinned (OpenSpec.ofChange onnxSkipsWrong)

/-- 'latticelaw07.OnnxSplits': WHATEVER THE INPUT: true; the input reads as it did. -/
def onnxSplitsSpec : ChangeSpec := { name := "onnxSplits", fn := fun _ => fun
  | [d1, d2] => { results := [.lit (.bool true)], args := [d1, d2] }
  | _ => none }
def onnxSplitsRow : OpenClaim := { program := "ytlhpmlknmgocoaa", sum := "e951ea35a904f6f3c898549e14bde969d5ed8162c1f4cb9b13257701181654bd", func := "lattice/latticelaw07.OnnxSplits", spec := "onnxSplits", unfollowed := true, recurses := true, apart := false }
def OnnxSplitsSaid : Prop := onnxSplitsRow.holds Try.pinned (OpenSpec.ofChange onnxSplitsSpec)

/-- ITS FALSE NEIGHBOUR: 'it returns false'. Refute it at one input. -/
def onnxSplitsWrong : ChangeSpec := { name := "onnxSplits", fn := fun _ => fun
  | [d1, d2] => { results := [.lit (.bool false)], args := [d1, d2] }
  | _ => none }
def OnnxSplitsWrongFalsely : Prop := onnxSplitsRow.holds Try.pinned (OpenSpec.ofChange onnxSplitsWrong)

/-- 'latticelaw07.OnnxTurns': WHATEVER THE INPUT: true; the input reads as it did. -/
def onnxTurnsSpec : ChangeSpec := { name := "onnxTurns", fn := fun _ => fun
  | [d] => { results := [.lit (.bool true)], args := [d] }
  | _ => none }
def onnxTurnsRow : OpenClaim := { program := "ytlhpmlknmgocoaa", sum := "e951ea35a904f6f3c898549e14bde969d5ed8162c1f4cb9b13257701181654bd", func := "lattice/latticelaw07.OnnxTurns", spec := "onnxTurns", unfollowed := true, recurses := true, apart := false }
def OnnxTurnsSaid : Prop := onnxTurnsRow.holds Try.pinned (OpenSpec.ofChange onnxTurnsSpec)

/-- ITS FALSE NEIGHBOUR: 'it returns false'. Refute it at one input. -/
def onnxTurnsWrong : ChangeSpec := { name := "onnxTurns", fn := fun _ => fun
  | [d] => { results := [.lit (.bool false)], args := [d] }
  | _ => none }
def OnnxTurnsWrongFalsely : Prop := onnxTurnsRow.holds Try.pinned (OpenSpec.ofChange onnxTurnsWrong)

/- THE SECOND FORM. 'bulk': how many values and letters a reading holds, each counted each time it is reached (what is shared counts as often as it is met; a slice's spare places count too). A statement '..UptoSaid' is the law's where the arguments, and the package variables that the reading takes, are together of bulk at most 1048576: NARROWER than '..Said'. Prove '..Said' where nothing that the law and all that it calls make is longer than what came in: it says more and counts as full. Else prove '..UptoSaid'. A law counts once. -/
mutual
def uptoBulk {H : Type} : DataW H → Nat
  | .lit (.string bytes) => bytes.length + 1
  | .lit _ => 1
  | .nil => 1
  | .ptr d => uptoBulk d + 1
  | .slice elems spare => uptoBulkAll elems + uptoBulkAll spare + 1
  | .agg parts => uptoBulkAll parts + 1
  | .iface _ d => uptoBulk d + 1
  | .map entries => uptoBulkEntries entries + 1
  | .held _ => 1
def uptoBulkAll {H : Type} : List (DataW H) → Nat
  | [] => 0
  | d :: r => uptoBulk d + uptoBulkAll r
def uptoBulkEntries {H : Type} : List (Lit × DataW H) → Nat
  | [] => 0
  | x :: r => uptoBulkEntry x + uptoBulkEntries r
def uptoBulkEntry {H : Type} : Lit × DataW H → Nat
  | (.string bytes, d) => bytes.length + uptoBulk d + 1
  | (_, d) => uptoBulk d + 1
 end
def uptoSmall : (H : Type) → List (DataW H) → Bool := fun _ ds => decide (uptoBulkAll ds ≤ 1048576)
def OpenSpec.upto (s : _root_.Go.ChangeSpec) : _root_.Go.OpenSpec := { _root_.Go.OpenSpec.ofChange s with cond := some uptoSmall }

/-- 'latticelaw07.OnnxCounts', WHERE WHAT IT READS IS OF BULK AT MOST 1048576: true; the input reads as it did. -/
def onnxCountsUptoRow : OpenClaim := { program := "ytlhpmlknmgocoaa", sum := "e951ea35a904f6f3c898549e14bde969d5ed8162c1f4cb9b13257701181654bd", func := "lattice/latticelaw07.OnnxCounts", spec := "onnxCounts", unfollowed := true, recurses := true, apart := false, narrowed := true }
def OnnxCountsUptoSaid : Prop := onnxCountsUptoRow.holds Try.pinned (OpenSpec.upto onnxCountsSpec)

/-- 'latticelaw07.OnnxBack', WHERE WHAT IT READS IS OF BULK AT MOST 1048576: true; the input reads as it did. -/
def onnxBackUptoRow : OpenClaim := { program := "ytlhpmlknmgocoaa", sum := "e951ea35a904f6f3c898549e14bde969d5ed8162c1f4cb9b13257701181654bd", func := "lattice/latticelaw07.OnnxBack", spec := "onnxBack", unfollowed := true, recurses := true, apart := false, narrowed := true }
def OnnxBackUptoSaid : Prop := onnxBackUptoRow.holds Try.pinned (OpenSpec.upto onnxBackSpec)

/-- 'latticelaw07.OnnxAgain', WHERE WHAT IT READS IS OF BULK AT MOST 1048576: true; the input reads as it did. -/
def onnxAgainUptoRow : OpenClaim := { program := "ytlhpmlknmgocoaa", sum := "e951ea35a904f6f3c898549e14bde969d5ed8162c1f4cb9b13257701181654bd", func := "lattice/latticelaw07.OnnxAgain", spec := "onnxAgain", unfollowed := true, recurses := true, apart := false, narrowed := true }
def OnnxAgainUptoSaid : Prop := onnxAgainUptoRow.holds Try.pinned (OpenSpec.upto onnxAgainSpec)

/-- 'latticelaw07.OnnxSkips', WHERE WHAT IT READS IS OF BULK AT MOST 1048576: true; the input reads as it did. -/
def onnxSkipsUptoRow : OpenClaim := { program := "ytlhpmlknmgocoaa", sum := "e951ea35a904f6f3c898549e14bde969d5ed8162c1f4cb9b13257701181654bd", func := "lattice/latticelaw07.OnnxSkips", spec := "onnxSkips", unfollowed := true, recurses := true, apart := false, narrowed := true }
def OnnxSkipsUptoSaid : Prop := onnxSkipsUptoRow.holds Try.pinned (OpenSpec.upto onnxSkipsSpec)

/-- 'latticelaw07.OnnxSplits', WHERE WHAT IT READS IS OF BULK AT MOST 1048576: true; the input reads as it did. -/
def onnxSplitsUptoRow : OpenClaim := { program := "ytlhpmlknmgocoaa", sum := "e951ea35a904f6f3c898549e14bde969d5ed8162c1f4cb9b13257701181654bd", func := "lattice/latticelaw07.OnnxSplits", spec := "onnxSplits", unfollowed := true, recurses := true, apart := false, narrowed := true }
def OnnxSplitsUptoSaid : Prop := onnxSplitsUptoRow.holds Try.pinned (OpenSpec.upto onnxSplitsSpec)

/-- 'latticelaw07.OnnxTurns', WHERE WHAT IT READS IS OF BULK AT MOST 1048576: true; the input reads as it did. -/
def onnxTurnsUptoRow : OpenClaim := { program := "ytlhpmlknmgocoaa", sum := "e951ea35a904f6f3c898549e14bde969d5ed8162c1f4cb9b13257701181654bd", func := "lattice/latticelaw07.OnnxTurns", spec := "onnxTurns", unfollowed := true, recurses := true, apart := false, narrowed := true }
def OnnxTurnsUptoSaid : Prop := onnxTurnsUptoRow.holds Try.pinned (OpenSpec.upto onnxTurnsSpec)

end Rows
end Go.Proofs.Ytlhpmlknmgocoaa
