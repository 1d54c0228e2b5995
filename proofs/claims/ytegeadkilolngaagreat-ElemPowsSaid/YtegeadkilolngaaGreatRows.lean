/-
  No cell of these rows narrows 'for every input' (looked for: loops, veiled, ifaces, maps, wideKeys, modest, calm, conditions, laid).
  DERIVED. THE GIVEN ROWS OF THIS SEAT. 3 by the template 'for every input the law returns true; each argument reads behind the call as it read before'; 0 by the template 'total and deterministic' (their statements: YtegeadkilolngaaGreatTotals.lean).
  GIVEN WITH THE SEED: the statements are not yours to turn. If you find one false, say at which input.
  Laid BY PROGRAM, IN A SANDBOX (cutbox-rows.mjs): the forced cells as the released guide's own fill.sh prints them over the translation d2c945646a8c28ad… (all of the seat's roots in one cut). By AI agents, Wed Nov 11 2026. No macro, syntax, notation, axiom, sorry.
-/
import Derived.Test.YtegeadkilolngaaGreatChecked
import GoSem.Claim
import GoSem.ClaimJoined
import GoSem.ClaimMapViews
import Derived.JoinedTies
import Derived.KernelRfl
namespace Go.Proofs.YtegeadkilolngaaGreat
/- THE CELL 'sum', in the pinned program and in every row, IS THE sha256 OF THE DUMP (.gsa) THAT YtegeadkilolngaaGreatProg.lean LOADS. Nothing in Lean hashes anything: it is a label: what it is worth is what the hold of that sum in a sandbox is worth. -/
noncomputable def Tryz.pinned : Pinned := { name := "ytegeadkilolngaagreat", sum := "d2c945646a8c28ade18b455c54b4628343a206c3ff328378721271748c5f386b", checked := Tryz.checked }
namespace Rows
def none {H : Type} : Left H := { results := [], args := [] }

/-- 'latticelaw03.ElemPowers': WHATEVER THE INPUT: true; the input reads as it did. -/
def elemPowersSpec : ChangeSpec := { name := "elemPowers", fn := fun _ => fun
  | [d] => { results := [.lit (.bool true)], args := [d] }
  | _ => none }
def elemPowersRow : OpenClaim := { program := "ytegeadkilolngaagreat", sum := "d2c945646a8c28ade18b455c54b4628343a206c3ff328378721271748c5f386b", func := "lattice/latticelaw03.ElemPowers", spec := "elemPowers", inPlace := ["math/bits.Add64", "math/bits.Sub64"], unfollowed := true, recurses := true, apart := false }
def ElemPowersSaid : Prop := elemPowersRow.holds Tryz.pinned (OpenSpec.ofChange elemPowersSpec)

/-- ITS FALSE NEIGHBOUR: 'it returns false'. Refute it at one input. -/
def elemPowersWrong : ChangeSpec := { name := "elemPowers", fn := fun _ => fun
  | [d] => { results := [.lit (.bool false)], args := [d] }
  | _ => none }
def ElemPowersWrongFalsely : Prop := elemPowersRow.holds Tryz.pinned (OpenSpec.ofChange elemPowersWrong)

/-- 'latticelaw03.ElemPows': WHATEVER THE INPUT: true; the input reads as it did. -/
def elemPowsSpec : ChangeSpec := { name := "elemPows", fn := fun _ => fun
  | [d1, d2] => { results := [.lit (.bool true)], args := [d1, d2] }
  | _ => none }
def elemPowsRow : OpenClaim := { program := "ytegeadkilolngaagreat", sum := "d2c945646a8c28ade18b455c54b4628343a206c3ff328378721271748c5f386b", func := "lattice/latticelaw03.ElemPows", spec := "elemPows", inPlace := ["math/bits.Add64", "math/bits.Sub64"], unfollowed := true, recurses := true, apart := false }
def ElemPowsSaid : Prop := elemPowsRow.holds Tryz.pinned (OpenSpec.ofChange elemPowsSpec)

/-- ITS FALSE NEIGHBOUR: 'it returns false'. Refute it at one input. -/
def elemPowsWrong : ChangeSpec := { name := "elemPows", fn := fun _ => fun
  | [d1, d2] => { results := [.lit (.bool false)], args := [d1, d2] }
  | _ => none }
def ElemPowsWrongFalsely : Prop := elemPowsRow.holds Tryz.pinned (OpenSpec.ofChange elemPowsWrong)

/-- 'latticelaw03.ElemCurves': WHATEVER THE INPUT: true; the input reads as it did. -/
def elemCurvesSpec : ChangeSpec := { name := "elemCurves", fn := fun _ => fun
  | [d] => { results := [.lit (.bool true)], args := [d] }
  | _ => none }
def elemCurvesRow : OpenClaim := { program := "ytegeadkilolngaagreat", sum := "d2c945646a8c28ade18b455c54b4628343a206c3ff328378721271748c5f386b", func := "lattice/latticelaw03.ElemCurves", spec := "elemCurves", inPlace := ["math/bits.Add64", "math/bits.Sub64"], unfollowed := true, recurses := true, apart := false }
def ElemCurvesSaid : Prop := elemCurvesRow.holds Tryz.pinned (OpenSpec.ofChange elemCurvesSpec)

/-- ITS FALSE NEIGHBOUR: 'it returns false'. Refute it at one input. -/
def elemCurvesWrong : ChangeSpec := { name := "elemCurves", fn := fun _ => fun
  | [d] => { results := [.lit (.bool false)], args := [d] }
  | _ => none }
def ElemCurvesWrongFalsely : Prop := elemCurvesRow.holds Tryz.pinned (OpenSpec.ofChange elemCurvesWrong)

/- THE SECOND FORM. 'bulk': how many values and letters a reading holds, each counted each time it is reached (what is shared counts as often as it is met; a slice's spare places count too). A statement '..UptoSaid' is the law's where the arguments, and the package variables that the reading takes, are together of bulk at most 1048576: NARROWER than '..Said'. Prove '..Said' where nothing that the law and all that it calls make is longer than what came in: it says more and counts as full. Else prove '..UptoSaid'. A law counts once. -/
mutual
def uptoBulk {H : Type} : DataW H → Nat
  | .lit (.string bytes) => bytes.length + 1
  | .lit _ => 1
  | .nil => 1
  | .ptr d => uptoBulk d + 1
  | .slice elems spare => uptoBulkAll elems + uptoBulkAll spare + 1
  | .agg parts => uptoBulkAll parts + 1
  | .iface _ d => uptoBulk d + 1
  | .map entries => uptoBulkEntries entries + 1
  | .held _ => 1
def uptoBulkAll {H : Type} : List (DataW H) → Nat
  | [] => 0
  | d :: r => uptoBulk d + uptoBulkAll r
def uptoBulkEntries {H : Type} : List (Lit × DataW H) → Nat
  | [] => 0
  | x :: r => uptoBulkEntry x + uptoBulkEntries r
def uptoBulkEntry {H : Type} : Lit × DataW H → Nat
  | (.string bytes, d) => bytes.length + uptoBulk d + 1
  | (_, d) => uptoBulk d + 1
 end
def uptoSmall : (H : Type) → List (DataW H) → Bool := fun _ ds => decide (uptoBulkAll ds ≤ 1048576)
def OpenSpec.upto (s : _root_.Go.ChangeSpec) : _root_.Go.OpenSpec := { _root_.Go.OpenSpec.ofChange s with cond := some uptoSmall }

/-- 'latticelaw03.ElemPowers', WHERE WHAT IT READS IS OF BULK AT MOST 1048576: true; the input reads as it did. -/
def elemPowersUptoRow : OpenClaim := { program := "ytegeadkilolngaagreat", sum := "d2c945646a8c28ade18b455c54b4628343a206c3ff328378721271748c5f386b", func := "lattice/latticelaw03.ElemPowers", spec := "elemPowers", inPlace := ["math/bits.Add64", "math/bits.Sub64"], unfollowed := true, recurses := true, apart := false, narrowed := true }
def ElemPowersUptoSaid : Prop := elemPowersUptoRow.holds Tryz.pinned (OpenSpec.upto elemPowersSpec)

/-- 'latticelaw03.ElemPows', WHERE WHAT IT READS IS OF BULK AT MOST 1048576: true; the input reads as it did. -/
def elemPowsUptoRow : OpenClaim := { program := "ytegeadkilolngaagreat", sum := "d2c945646a8c28ade18b455c54b4628343a206c3ff328378721271748c5f386b", func := "lattice/latticelaw03.ElemPows", spec := "elemPows", inPlace := ["math/bits.Add64", "math/bits.Sub64"], unfollowed := true, recurses := true, apart := false, narrowed := true }
def ElemPowsUptoSaid : Prop := elemPowsUptoRow.holds Tryz.pinned (OpenSpec.upto elemPowsSpec)

/-- 'latticelaw03.ElemCurves', WHERE WHAT IT READS IS OF BULK AT MOST 1048576: true; the input reads as it did. -/
def elemCurvesUptoRow : OpenClaim := { program := "ytegeadkilolngaagreat", sum := "d2c945646a8c28ade18b455c54b4628343a206c3ff328378721271748c5f386b", func := "lattice/latticelaw03.ElemCurves", spec := "elemCurves", inPlace := ["math/bits.Add64", "math/bits.Sub64"], unfollowed := true, recurses := true, apart := false, narrowed := true }
def ElemCurvesUptoSaid : Prop := elemCurvesUptoRow.holds Tryz.pinned (OpenSpec.upto elemCurvesSpec)

end Rows
end Go.Proofs.YtegeadkilolngaaGreat
