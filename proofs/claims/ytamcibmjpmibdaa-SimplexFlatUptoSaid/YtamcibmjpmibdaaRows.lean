/-
  No cell of these rows narrows 'for every input' (looked for: loops, veiled, ifaces, maps, wideKeys, modest, calm, conditions, laid).
  DERIVED. THE GIVEN ROWS OF THIS SEAT. 7 by the template 'for every input the law returns true; each argument reads behind the call as it read before'; 0 by the template 'total and deterministic' (their statements: YtamcibmjpmibdaaTotals.lean).
  GIVEN WITH THE SEED: the statements are not yours to turn. If you find one false, say at which input.
  Laid BY PROGRAM, IN A SANDBOX (cutbox-rows.mjs): the forced cells as the released guide's own fill.sh prints them over the translation a79f7dbd4cb9d9b1… (all of the seat's roots in one cut). By AI agents, Wed Nov 11 2026. No macro, syntax, notation, axiom, sorry.
-/
import Derived.Test.YtamcibmjpmibdaaChecked
import GoSem.Claim
import GoSem.ClaimJoined
import GoSem.ClaimMapViews
import Derived.JoinedTies
import Derived.KernelRfl
namespace Go.Proofs.Ytamcibmjpmibdaa
/- THE CELL 'sum', in the pinned program and in every row, IS THE sha256 OF THE DUMP (.gsa) THAT YtamcibmjpmibdaaProg.lean LOADS. Nothing in Lean hashes anything: it is a label: what it is worth is what the hold of that sum in a sandbox is worth. -/
noncomputable def Try.pinned : Pinned := { name := "ytamcibmjpmibdaa", sum := "a79f7dbd4cb9d9b1f7a3060278236209dfce1018d96c73b6e6e6f67f216a9409", checked := Try.checked }
namespace Rows
def none {H : Type} : Left H := { results := [], args := [] }

/-- 'ordinallaw28.SimplexSolves': WHATEVER THE INPUT: true; the input reads as it did. -/
def simplexSolvesSpec : ChangeSpec := { name := "simplexSolves", fn := fun _ => fun
  | [d] => { results := [.lit (.bool true)], args := [d] }
  | _ => none }
def simplexSolvesRow : OpenClaim := { program := "ytamcibmjpmibdaa", sum := "a79f7dbd4cb9d9b1f7a3060278236209dfce1018d96c73b6e6e6f67f216a9409", func := "ordinal/ordinallaw28.SimplexSolves", spec := "simplexSolves", inPlace := ["internal/abi.NoEscape", "internal/bytealg.MakeNoZero"], unfollowed := true, recurses := true, apart := false }
def SimplexSolvesSaid : Prop := simplexSolvesRow.holds Try.pinned (OpenSpec.ofChange simplexSolvesSpec)

/-- ITS FALSE NEIGHBOUR: 'it returns false'. Refute it at one input. -/
def simplexSolvesWrong : ChangeSpec := { name := "simplexSolves", fn := fun _ => fun
  | [d] => { results := [.lit (.bool false)], args := [d] }
  | _ => none }
def SimplexSolvesWrongFalsely : Prop := simplexSolvesRow.holds Try.pinned (OpenSpec.ofChange simplexSolvesWrong)

/-- 'ordinallaw28.SimplexChecks': WHATEVER THE INPUT: true; the input reads as it did. -/
def simplexChecksSpec : ChangeSpec := { name := "simplexChecks", fn := fun _ => fun
  | [d1, d2] => { results := [.lit (.bool true)], args := [d1, d2] }
  | _ => none }
def simplexChecksRow : OpenClaim := { program := "ytamcibmjpmibdaa", sum := "a79f7dbd4cb9d9b1f7a3060278236209dfce1018d96c73b6e6e6f67f216a9409", func := "ordinal/ordinallaw28.SimplexChecks", spec := "simplexChecks", inPlace := ["internal/abi.NoEscape", "internal/bytealg.MakeNoZero"], unfollowed := true, recurses := true, apart := false }
def SimplexChecksSaid : Prop := simplexChecksRow.holds Try.pinned (OpenSpec.ofChange simplexChecksSpec)

/-- ITS FALSE NEIGHBOUR: 'it returns false'. Refute it at one input. -/
def simplexChecksWrong : ChangeSpec := { name := "simplexChecks", fn := fun _ => fun
  | [d1, d2] => { results := [.lit (.bool false)], args := [d1, d2] }
  | _ => none }
def SimplexChecksWrongFalsely : Prop := simplexChecksRow.holds Try.pinned (OpenSpec.ofChange simplexChecksWrong)

/-- 'ordinallaw28.SimplexFlat': WHATEVER THE INPUT: true; the input reads as it did. -/
def simplexFlatSpec : ChangeSpec := { name := "simplexFlat", fn := fun _ => fun
  | [d] => { results := [.lit (.bool true)], args := [d] }
  | _ => none }
def simplexFlatRow : OpenClaim := { program := "ytamcibmjpmibdaa", sum := "a79f7dbd4cb9d9b1f7a3060278236209dfce1018d96c73b6e6e6f67f216a9409", func := "ordinal/ordinallaw28.SimplexFlat", spec := "simplexFlat", inPlace := ["internal/abi.NoEscape", "internal/bytealg.MakeNoZero"], unfollowed := true, recurses := true, apart := false }
def SimplexFlatSaid : Prop := simplexFlatRow.holds Try.pinned (OpenSpec.ofChange simplexFlatSpec)

/-- ITS FALSE NEIGHBOUR: 'it returns false'. Refute it at one input. -/
def simplexFlatWrong : ChangeSpec := { name := "simplexFlat", fn := fun _ => fun
  | [d] => { results := [.lit (.bool false)], args := [d] }
  | _ => none }
def SimplexFlatWrongFalsely : Prop := simplexFlatRow.holds Try.pinned (OpenSpec.ofChange simplexFlatWrong)

/-- 'ordinallaw28.SimplexDuals': WHATEVER THE INPUT: true; the input reads as it did. -/
def simplexDualsSpec : ChangeSpec := { name := "simplexDuals", fn := fun _ => fun
  | [d] => { results := [.lit (.bool true)], args := [d] }
  | _ => none }
def simplexDualsRow : OpenClaim := { program := "ytamcibmjpmibdaa", sum := "a79f7dbd4cb9d9b1f7a3060278236209dfce1018d96c73b6e6e6f67f216a9409", func := "ordinal/ordinallaw28.SimplexDuals", spec := "simplexDuals", inPlace := ["internal/abi.NoEscape", "internal/bytealg.MakeNoZero"], unfollowed := true, recurses := true, apart := false }
def SimplexDualsSaid : Prop := simplexDualsRow.holds Try.pinned (OpenSpec.ofChange simplexDualsSpec)

/-- ITS FALSE NEIGHBOUR: 'it returns false'. Refute it at one input. -/
def simplexDualsWrong : ChangeSpec := { name := "simplexDuals", fn := fun _ => fun
  | [d] => { results := [.lit (.bool false)], args := [d] }
  | _ => none }
def SimplexDualsWrongFalsely : Prop := simplexDualsRow.holds Try.pinned (OpenSpec.ofChange simplexDualsWrong)

/-- 'ordinallaw28.SimplexScales': WHATEVER THE INPUT: true; the input reads as it did. -/
def simplexScalesSpec : ChangeSpec := { name := "simplexScales", fn := fun _ => fun
  | [d1, d2, d3] => { results := [.lit (.bool true)], args := [d1, d2, d3] }
  | _ => none }
def simplexScalesRow : OpenClaim := { program := "ytamcibmjpmibdaa", sum := "a79f7dbd4cb9d9b1f7a3060278236209dfce1018d96c73b6e6e6f67f216a9409", func := "ordinal/ordinallaw28.SimplexScales", spec := "simplexScales", inPlace := ["internal/abi.NoEscape", "internal/bytealg.MakeNoZero"], unfollowed := true, recurses := true, apart := false }
def SimplexScalesSaid : Prop := simplexScalesRow.holds Try.pinned (OpenSpec.ofChange simplexScalesSpec)

/-- ITS FALSE NEIGHBOUR: 'it returns false'. Refute it at one input. -/
def simplexScalesWrong : ChangeSpec := { name := "simplexScales", fn := fun _ => fun
  | [d1, d2, d3] => { results := [.lit (.bool false)], args := [d1, d2, d3] }
  | _ => none }
def SimplexScalesWrongFalsely : Prop := simplexScalesRow.holds Try.pinned (OpenSpec.ofChange simplexScalesWrong)

/-- 'ordinallaw28.SimplexTightens': WHATEVER THE INPUT: true; the input reads as it did. -/
def simplexTightensSpec : ChangeSpec := { name := "simplexTightens", fn := fun _ => fun
  | [d1, d2, d3] => { results := [.lit (.bool true)], args := [d1, d2, d3] }
  | _ => none }
def simplexTightensRow : OpenClaim := { program := "ytamcibmjpmibdaa", sum := "a79f7dbd4cb9d9b1f7a3060278236209dfce1018d96c73b6e6e6f67f216a9409", func := "ordinal/ordinallaw28.SimplexTightens", spec := "simplexTightens", inPlace := ["internal/abi.NoEscape", "internal/bytealg.MakeNoZero"], unfollowed := true, recurses := true, apart := false }
def SimplexTightensSaid : Prop := simplexTightensRow.holds Try.pinned (OpenSpec.ofChange simplexTightensSpec)

/-- ITS FALSE NEIGHBOUR: 'it returns false'. Refute it at one input. -/
def simplexTightensWrong : ChangeSpec := { name := "simplexTightens", fn := fun _ => fun
  | [d1, d2, d3] => { results := [.lit (.bool false)], args := [d1, d2, d3] }
  | _ => none }
def SimplexTightensWrongFalsely : Prop := simplexTightensRow.holds Try.pinned (OpenSpec.ofChange simplexTightensWrong)

/-- 'ordinallaw28.SimplexDots': WHATEVER THE INPUT: true; the input reads as it did. -/
def simplexDotsSpec : ChangeSpec := { name := "simplexDots", fn := fun _ => fun
  | [d1, d2] => { results := [.lit (.bool true)], args := [d1, d2] }
  | _ => none }
def simplexDotsRow : OpenClaim := { program := "ytamcibmjpmibdaa", sum := "a79f7dbd4cb9d9b1f7a3060278236209dfce1018d96c73b6e6e6f67f216a9409", func := "ordinal/ordinallaw28.SimplexDots", spec := "simplexDots", inPlace := ["internal/abi.NoEscape", "internal/bytealg.MakeNoZero"], unfollowed := true, recurses := true, apart := false }
def SimplexDotsSaid : Prop := simplexDotsRow.holds Try.pinned (OpenSpec.ofChange simplexDotsSpec)

/-- ITS FALSE NEIGHBOUR: 'it returns false'. Refute it at one input. -/
def simplexDotsWrong : ChangeSpec := { name := "simplexDots", fn := fun _ => fun
  | [d1, d2] => { results := [.lit (.bool false)], args := [d1, d2] }
  | _ => none }
def SimplexDotsWrongFalsely : Prop := simplexDotsRow.holds Try.pinned (OpenSpec.ofChange simplexDotsWrong)

/- THE SECOND FORM. 'bulk': how many values and letters a reading holds, each counted each time it is reached (what is shared counts as often as it is met; a slice's spare places count too). A statement '..UptoSaid' is the law's where the arguments, and the package variables that the reading takes, are together of bulk at most 1048576: NARROWER than '..Said'. Prove '..Said' where nothing that the law and all that it calls make is longer than what came in: it says more and counts as full. Else prove '..UptoSaid'. A law counts once. -/
mutual
def uptoBulk {H : Type} : DataW H → Nat
  | .lit (.string bytes) => bytes.length + 1
  | .lit _ => 1
  | .nil => 1
  | .ptr d => uptoBulk d + 1
  | .slice elems spare => uptoBulkAll elems + uptoBulkAll spare + 1
  | .agg parts => uptoBulkAll parts + 1
  | .iface _ d => uptoBulk d + 1
  | .map entries => uptoBulkEntries entries + 1
  | .held _ => 1
def uptoBulkAll {H : Type} : List (DataW H) → Nat
  | [] => 0
  | d :: r => uptoBulk d + uptoBulkAll r
def uptoBulkEntries {H : Type} : List (Lit × DataW H) → Nat
  | [] => 0
  | x :: r => uptoBulkEntry x + uptoBulkEntries r
def uptoBulkEntry {H : Type} : Lit × DataW H → Nat
  | (.string bytes, d) => bytes.length + uptoBulk d + 1
  | (_, d) => uptoBulk d + 1
 end
def uptoSmall : (H : Type) → List (DataW H) → Bool := fun _ ds => decide (uptoBulkAll ds ≤ 1048576)
def OpenSpec.upto (s : _root_.Go.ChangeSpec) : _root_.Go.OpenSpec := { _root_.Go.OpenSpec.ofChange s with cond := some uptoSmall }

/-- 'ordinallaw28.SimplexSolves', WHERE WHAT IT READS IS OF BULK AT MOST 1048576: true; the input reads as it did. -/
def simplexSolvesUptoRow : OpenClaim := { program := "ytamcibmjpmibdaa", sum := "a79f7dbd4cb9d9b1f7a3060278236209dfce1018d96c73b6e6e6f67f216a9409", func := "ordinal/ordinallaw28.SimplexSolves", spec := "simplexSolves", inPlace := ["internal/abi.NoEscape", "internal/bytealg.MakeNoZero"], unfollowed := true, recurses := true, apart := false, narrowed := true }
def SimplexSolvesUptoSaid : Prop := simplexSolvesUptoRow.holds Try.pinned (OpenSpec.upto simplexSolvesSpec)

/-- 'ordinallaw28.SimplexChecks', WHERE WHAT IT READS IS OF BULK AT MOST 1048576: true; the input reads as it did. -/
def simplexChecksUptoRow : OpenClaim := { program := "ytamcibmjpmibdaa", sum := "a79f7dbd4cb9d9b1f7a3060278236209dfce1018d96c73b6e6e6f67f216a9409", func := "ordinal/ordinallaw28.SimplexChecks", spec := "simplexChecks", inPlace := ["internal/abi.NoEscape", "internal/bytealg.MakeNoZero"], unfollowed := true, recurses := true, apart := false, narrowed := true }
def SimplexChecksUptoSaid : Prop := simplexChecksUptoRow.holds Try.pinned (OpenSpec.upto simplexChecksSpec)

/-- 'ordinallaw28.SimplexFlat', WHERE WHAT IT READS IS OF BULK AT MOST 1048576: true; the input reads as it did. -/
def simplexFlatUptoRow : OpenClaim := { program := "ytamcibmjpmibdaa", sum := "a79f7dbd4cb9d9b1f7a3060278236209dfce1018d96c73b6e6e6f67f216a9409", func := "ordinal/ordinallaw28.SimplexFlat", spec := "simplexFlat", inPlace := ["internal/abi.NoEscape", "internal/bytealg.MakeNoZero"], unfollowed := true, recurses := true, apart := false, narrowed := true }
def SimplexFlatUptoSaid : Prop := simplexFlatUptoRow.holds Try.pinned (OpenSpec.upto simplexFlatSpec)

/-- 'ordinallaw28.SimplexDuals', WHERE WHAT IT READS IS OF BULK AT MOST 1048576: true; the input reads as it did. -/
def simplexDualsUptoRow : OpenClaim := { program := "ytamcibmjpmibdaa", sum := "a79f7dbd4cb9d9b1f7a3060278236209dfce1018d96c73b6e6e6f67f216a9409", func := "ordinal/ordinallaw28.SimplexDuals", spec := "simplexDuals", inPlace := ["internal/abi.NoEscape", "internal/bytealg.MakeNoZero"], unfollowed := true, recurses := true, apart := false, narrowed := true }
def SimplexDualsUptoSaid : Prop := simplexDualsUptoRow.holds Try.pinned (OpenSpec.upto simplexDualsSpec)

/-- 'ordinallaw28.SimplexScales', WHERE WHAT IT READS IS OF BULK AT MOST 1048576: true; the input reads as it did. -/
def simplexScalesUptoRow : OpenClaim := { program := "ytamcibmjpmibdaa", sum := "a79f7dbd4cb9d9b1f7a3060278236209dfce1018d96c73b6e6e6f67f216a9409", func := "ordinal/ordinallaw28.SimplexScales", spec := "simplexScales", inPlace := ["internal/abi.NoEscape", "internal/bytealg.MakeNoZero"], unfollowed := true, recurses := true, apart := false, narrowed := true }
def SimplexScalesUptoSaid : Prop := simplexScalesUptoRow.holds Try.pinned (OpenSpec.upto simplexScalesSpec)

/-- 'ordinallaw28.SimplexTightens', WHERE WHAT IT READS IS OF BULK AT MOST 1048576: true; the input reads as it did. -/
def simplexTightensUptoRow : OpenClaim := { program := "ytamcibmjpmibdaa", sum := "a79f7dbd4cb9d9b1f7a3060278236209dfce1018d96c73b6e6e6f67f216a9409", func := "ordinal/ordinallaw28.SimplexTightens", spec := "simplexTightens", inPlace := ["internal/abi.NoEscape", "internal/bytealg.MakeNoZero"], unfollowed := true, recurses := true, apart := false, narrowed := true }
def SimplexTightensUptoSaid : Prop := simplexTightensUptoRow.holds Try.pinned (OpenSpec.upto simplexTightensSpec)

/-- 'ordinallaw28.SimplexDots', WHERE WHAT IT READS IS OF BULK AT MOST 1048576: true; the input reads as it did. -/
def simplexDotsUptoRow : OpenClaim := { program := "ytamcibmjpmibdaa", sum := "a79f7dbd4cb9d9b1f7a3060278236209dfce1018d96c73b6e6e6f67f216a9409", func := "ordinal/ordinallaw28.SimplexDots", spec := "simplexDots", inPlace := ["internal/abi.NoEscape", "internal/bytealg.MakeNoZero"], unfollowed := true, recurses := true, apart := false, narrowed := true }
def SimplexDotsUptoSaid : Prop := simplexDotsUptoRow.holds Try.pinned (OpenSpec.upto simplexDotsSpec)

end Rows
end Go.Proofs.Ytamcibmjpmibdaa
