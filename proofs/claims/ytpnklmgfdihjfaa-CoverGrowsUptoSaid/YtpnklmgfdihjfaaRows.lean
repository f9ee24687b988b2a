/-
  No cell of these rows narrows 'for every input' (looked for: loops, veiled, ifaces, maps, wideKeys, modest, calm, conditions, laid).
  DERIVED. THE GIVEN ROWS OF THIS SEAT. 6 by the template 'for every input the law returns true; each argument reads behind the call as it read before'; 0 by the template 'total and deterministic' (their statements: YtpnklmgfdihjfaaTotals.lean).
  GIVEN WITH THE SEED: the statements are not yours to turn. If you find one false, say at which input.
  Laid BY PROGRAM, IN A SANDBOX (cutbox-rows.mjs): the forced cells as the released guide's own fill.sh prints them over the translation 7b020be01fc62bbc… (all of the seat's roots in one cut). By AI agents, Wed Nov 11 2026. No macro, syntax, notation, axiom, sorry.
-/
import Derived.Test.YtpnklmgfdihjfaaChecked
import GoSem.Claim
import GoSem.ClaimJoined
import GoSem.ClaimMapViews
import Derived.JoinedTies
import Derived.KernelRfl
namespace Go.Proofs.Ytpnklmgfdihjfaa
/- THE CELL 'sum', in the pinned program and in every row, IS THE sha256 OF THE DUMP (.gsa) THAT YtpnklmgfdihjfaaProg.lean LOADS. Nothing in Lean hashes anything: it is a label: what it is worth is what the hold of that sum in a sandbox is worth. -/
noncomputable def Try.pinned : Pinned := { name := "ytpnklmgfdihjfaa", sum := "7b020be01fc62bbc849c065a94deafa8c28828181e5448693cb82a41b9b78b62", checked := Try.checked }
namespace Rows
def none {H : Type} : Left H := { results := [], args := [] }

/-- 'ordinallaw29.CoverSubsets': WHATEVER THE INPUT: true; the input reads as it did. -/
def coverSubsetsSpec : ChangeSpec := { name := "coverSubsets", fn := fun _ => fun
  | [d1, d2, d3] => { results := [.lit (.bool true)], args := [d1, d2, d3] }
  | _ => none }
def coverSubsetsRow : OpenClaim := { program := "ytpnklmgfdihjfaa", sum := "7b020be01fc62bbc849c065a94deafa8c28828181e5448693cb82a41b9b78b62", func := "ordinal/ordinallaw29.CoverSubsets", spec := "coverSubsets", unfollowed := true, recurses := true, apart := false }
def CoverSubsetsSaid : Prop := coverSubsetsRow.holds Try.pinned (OpenSpec.ofChange coverSubsetsSpec)

/-- ITS FALSE NEIGHBOUR: 'it returns false'. Refute it at one input. -/
def coverSubsetsWrong : ChangeSpec := { name := "coverSubsets", fn := fun _ => fun
  | [d1, d2, d3] => { results := [.lit (.bool false)], args := [d1, d2, d3] }
  | _ => none }
def CoverSubsetsWrongFalsely : Prop := coverSubsetsRow.holds Try.pinned (OpenSpec.ofChange coverSubsetsWrong)

/-- 'ordinallaw29.CoverBounds': WHATEVER THE INPUT: true; the input reads as it did. -/
def coverBoundsSpec : ChangeSpec := { name := "coverBounds", fn := fun _ => fun
  | [d1, d2, d3] => { results := [.lit (.bool true)], args := [d1, d2, d3] }
  | _ => none }
def coverBoundsRow : OpenClaim := { program := "ytpnklmgfdihjfaa", sum := "7b020be01fc62bbc849c065a94deafa8c28828181e5448693cb82a41b9b78b62", func := "ordinal/ordinallaw29.CoverBounds", spec := "coverBounds", unfollowed := true, recurses := true, apart := false }
def CoverBoundsSaid : Prop := coverBoundsRow.holds Try.pinned (OpenSpec.ofChange coverBoundsSpec)

/-- ITS FALSE NEIGHBOUR: 'it returns false'. Refute it at one input. -/
def coverBoundsWrong : ChangeSpec := { name := "coverBounds", fn := fun _ => fun
  | [d1, d2, d3] => { results := [.lit (.bool false)], args := [d1, d2, d3] }
  | _ => none }
def CoverBoundsWrongFalsely : Prop := coverBoundsRow.holds Try.pinned (OpenSpec.ofChange coverBoundsWrong)

/-- 'ordinallaw29.CoverGrows': WHATEVER THE INPUT: true; the input reads as it did. -/
def coverGrowsSpec : ChangeSpec := { name := "coverGrows", fn := fun _ => fun
  | [d1, d2, d3] => { results := [.lit (.bool true)], args := [d1, d2, d3] }
  | _ => none }
def coverGrowsRow : OpenClaim := { program := "ytpnklmgfdihjfaa", sum := "7b020be01fc62bbc849c065a94deafa8c28828181e5448693cb82a41b9b78b62", func := "ordinal/ordinallaw29.CoverGrows", spec := "coverGrows", unfollowed := true, recurses := true, apart := false }
def CoverGrowsSaid : Prop := coverGrowsRow.holds Try.pinned (OpenSpec.ofChange coverGrowsSpec)

/-- ITS FALSE NEIGHBOUR: 'it returns false'. Refute it at one input. -/
def coverGrowsWrong : ChangeSpec := { name := "coverGrows", fn := fun _ => fun
  | [d1, d2, d3] => { results := [.lit (.bool false)], args := [d1, d2, d3] }
  | _ => none }
def CoverGrowsWrongFalsely : Prop := coverGrowsRow.holds Try.pinned (OpenSpec.ofChange coverGrowsWrong)

/-- 'ordinallaw29.CoverLeast': WHATEVER THE INPUT: true; the input reads as it did. -/
def coverLeastSpec : ChangeSpec := { name := "coverLeast", fn := fun _ => fun
  | [d1, d2, d3] => { results := [.lit (.bool true)], args := [d1, d2, d3] }
  | _ => none }
def coverLeastRow : OpenClaim := { program := "ytpnklmgfdihjfaa", sum := "7b020be01fc62bbc849c065a94deafa8c28828181e5448693cb82a41b9b78b62", func := "ordinal/ordinallaw29.CoverLeast", spec := "coverLeast", unfollowed := true, recurses := true, apart := false }
def CoverLeastSaid : Prop := coverLeastRow.holds Try.pinned (OpenSpec.ofChange coverLeastSpec)

/-- ITS FALSE NEIGHBOUR: 'it returns false'. Refute it at one input. -/
def coverLeastWrong : ChangeSpec := { name := "coverLeast", fn := fun _ => fun
  | [d1, d2, d3] => { results := [.lit (.bool false)], args := [d1, d2, d3] }
  | _ => none }
def CoverLeastWrongFalsely : Prop := coverLeastRow.holds Try.pinned (OpenSpec.ofChange coverLeastWrong)

/-- 'ordinallaw29.CoverFinds': WHATEVER THE INPUT: true; the input reads as it did. -/
def coverFindsSpec : ChangeSpec := { name := "coverFinds", fn := fun _ => fun
  | [d1, d2] => { results := [.lit (.bool true)], args := [d1, d2] }
  | _ => none }
def coverFindsRow : OpenClaim := { program := "ytpnklmgfdihjfaa", sum := "7b020be01fc62bbc849c065a94deafa8c28828181e5448693cb82a41b9b78b62", func := "ordinal/ordinallaw29.CoverFinds", spec := "coverFinds", unfollowed := true, recurses := true, apart := false }
def CoverFindsSaid : Prop := coverFindsRow.holds Try.pinned (OpenSpec.ofChange coverFindsSpec)

/-- ITS FALSE NEIGHBOUR: 'it returns false'. Refute it at one input. -/
def coverFindsWrong : ChangeSpec := { name := "coverFinds", fn := fun _ => fun
  | [d1, d2] => { results := [.lit (.bool false)], args := [d1, d2] }
  | _ => none }
def CoverFindsWrongFalsely : Prop := coverFindsRow.holds Try.pinned (OpenSpec.ofChange coverFindsWrong)

/-- 'ordinallaw29.CoverChecks': WHATEVER THE INPUT: true; the input reads as it did. -/
def coverChecksSpec : ChangeSpec := { name := "coverChecks", fn := fun _ => fun
  | [d1, d2, d3] => { results := [.lit (.bool true)], args := [d1, d2, d3] }
  | _ => none }
def coverChecksRow : OpenClaim := { program := "ytpnklmgfdihjfaa", sum := "7b020be01fc62bbc849c065a94deafa8c28828181e5448693cb82a41b9b78b62", func := "ordinal/ordinallaw29.CoverChecks", spec := "coverChecks", unfollowed := true, recurses := true, apart := false }
def CoverChecksSaid : Prop := coverChecksRow.holds Try.pinned (OpenSpec.ofChange coverChecksSpec)

/-- ITS FALSE NEIGHBOUR: 'it returns false'. Refute it at one input. -/
def coverChecksWrong : ChangeSpec := { name := "coverChecks", fn := fun _ => fun
  | [d1, d2, d3] => { results := [.lit (.bool false)], args := [d1, d2, d3] }
  | _ => none }
def CoverChecksWrongFalsely : Prop := coverChecksRow.holds Try.pinned (OpenSpec.ofChange coverChecksWrong)

/- THE SECOND FORM. 'bulk': how many values and letters a reading holds, each counted each time it is reached (what is shared counts as often as it is met; a slice's spare places count too). A statement '..UptoSaid' is the law's where the arguments, and the package variables that the reading takes, are together of bulk at most 1048576: NARROWER than '..Said'. Prove '..Said' where nothing that the law and all that it calls make is longer than what came in: it says more and counts as full. Else prove '..UptoSaid'. A law counts once. -/
mutual
def uptoBulk {H : Type} : DataW H → Nat
  | .lit (.string bytes) => bytes.length + 1
  | .lit _ => 1
  | .nil => 1
  | .ptr d => uptoBulk d + 1
  | .slice elems spare => uptoBulkAll elems + uptoBulkAll spare + 1
  | .agg parts => uptoBulkAll parts + 1
  | .iface _ d => uptoBulk d + 1
  | .map entries => uptoBulkEntries entries + 1
  | .held _ => 1
def uptoBulkAll {H : Type} : List (DataW H) → Nat
  | [] => 0
  | d :: r => uptoBulk d + uptoBulkAll r
def uptoBulkEntries {H : Type} : List (Lit × DataW H) → Nat
  | [] => 0
  | x :: r => uptoBulkEntry x + uptoBulkEntries r
def uptoBulkEntry {H : Type} : Lit × DataW H → Nat
  | (.string bytes, d) => bytes.length + uptoBulk d + 1
  | (_, d) => uptoBulk d + 1
 end
def uptoSmall : (H : Type) → List (DataW H) → Bool := fun _ ds => decide (uptoBulkAll ds ≤ 1048576)
def OpenSpec.upto (s : _root_.Go.ChangeSpec) : _root_.Go.OpenSpec := { _root_.Go.OpenSpec.ofChange s with cond := some uptoSmall }

/-- 'ordinallaw29.CoverSubsets', WHERE WHAT IT READS IS OF BULK AT MOST 1048576: true; the input reads as it did. -/
def coverSubsetsUptoRow : OpenClaim := { program := "ytpnklmgfdihjfaa", sum := "7b020be01fc62bbc849c065a94deafa8c28828181e5448693cb82a41b9b78b62", func := "ordinal/ordinallaw29.CoverSubsets", spec := "coverSubsets", unfollowed := true, recurses := true, apart := false, narrowed := true }
def CoverSubsetsUptoSaid : Prop := coverSubsetsUptoRow.holds Try.pinned (OpenSpec.upto coverSubsetsSpec)

/-- 'ordinallaw29.CoverBounds', WHERE WHAT IT READS IS OF BULK AT MOST 1048576: true; the input reads as it did. -/
def coverBoundsUptoRow : OpenClaim := { program := "ytpnklmgfdihjfaa", sum := "7b020be01fc62bbc849c065a94deafa8c28828181e5448693cb82a41b9b78b62", func := "ordinal/ordinallaw29.CoverBounds", spec := "coverBounds", unfollowed := true, recurses := true, apart := false, narrowed := true }
def CoverBoundsUptoSaid : Prop := coverBoundsUptoRow.holds Try.pinned (OpenSpec.upto coverBoundsSpec)

/-- 'ordinallaw29.CoverGrows', WHERE WHAT IT READS IS OF BULK AT MOST 1048576: true; the input reads as it did. -/
def coverGrowsUptoRow : OpenClaim := { program := "ytpnklmgfdihjfaa", sum := "7b020be01fc62bbc849c065a94deafa8c28828181e5448693cb82a41b9b78b62", func := "ordinal/ordinallaw29.CoverGrows", spec := "coverGrows", unfollowed := true, recurses := true, apart := false, narrowed := true }
def CoverGrowsUptoSaid : Prop := coverGrowsUptoRow.holds Try.pinned (OpenSpec.upto coverGrowsSpec)

/-- 'ordinallaw29.CoverLeast', WHERE WHAT IT READS IS OF BULK AT MOST 1048576: true; the input reads as it did. -/
def coverLeastUptoRow : OpenClaim := { program := "ytpnklmgfdihjfaa", sum := "7b020be01fc62bbc849c065a94deafa8c28828181e5448693cb82a41b9b78b62", func := "ordinal/ordinallaw29.CoverLeast", spec := "coverLeast", unfollowed := true, recurses := true, apart := false, narrowed := true }
def CoverLeastUptoSaid : Prop := coverLeastUptoRow.holds Try.pinned (OpenSpec.upto coverLeastSpec)

/-- 'ordinallaw29.CoverFinds', WHERE WHAT IT READS IS OF BULK AT MOST 1048576: true; the input reads as it did. -/
def coverFindsUptoRow : OpenClaim := { program := "ytpnklmgfdihjfaa", sum := "7b020be01fc62bbc849c065a94deafa8c28828181e5448693cb82a41b9b78b62", func := "ordinal/ordinallaw29.CoverFinds", spec := "coverFinds", unfollowed := true, recurses := true, apart := false, narrowed := true }
def CoverFindsUptoSaid : Prop := coverFindsUptoRow.holds Try.pinned (OpenSpec.upto coverFindsSpec)

/-- 'ordinallaw29.CoverChecks', WHERE WHAT IT READS IS OF BULK AT MOST 1048576: true; the input reads as it did. -/
def coverChecksUptoRow : OpenClaim := { program := "ytpnklmgfdihjfaa", sum := "7b020be01fc62bbc849c065a94deafa8c28828181e5448693cb82a41b9b78b62", func := "ordinal/ordinallaw29.CoverChecks", spec := "coverChecks", unfollowed := true, recurses := true, apart := false, narrowed := true }
def CoverChecksUptoSaid : Prop := coverChecksUptoRow.holds Try.pinned (OpenSpec.upto coverChecksSpec)

end Rows
end Go.Proofs.Ytpnklmgfdihjfaa
