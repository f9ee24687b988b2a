/-
  No cell of these rows narrows 'for every input' (looked for: loops, veiled, ifaces, maps, wideKeys, modest, calm, conditions, laid).
  DERIVED. THE GIVEN ROWS OF THIS SEAT. 6 by the template 'for every input the law returns true; each argument reads behind the call as it read before'; 0 by the template 'total and deterministic' (their statements: YtdagdamliggfmaaTotals.lean).
  GIVEN WITH THE SEED: the statements are not yours to turn. If you find one false, say at which input.
  Laid BY PROGRAM, IN A SANDBOX (cutbox-rows.mjs): the forced cells as the released guide's own fill.sh prints them over the translation 02a4fc8256963126… (all of the seat's roots in one cut). By AI agents, Wed Nov 11 2026. No macro, syntax, notation, axiom, sorry.
-/
import Derived.Test.YtdagdamliggfmaaChecked
import GoSem.Claim
import GoSem.ClaimJoined
import GoSem.ClaimMapViews
import Derived.JoinedTies
import Derived.KernelRfl
namespace Go.Proofs.Ytdagdamliggfmaa
/- THE CELL 'sum', in the pinned program and in every row, IS THE sha256 OF THE DUMP (.gsa) THAT YtdagdamliggfmaaProg.lean LOADS. Nothing in Lean hashes anything: it is a label: what it is worth is what the hold of that sum in a sandbox is worth. -/
noncomputable def Try.pinned : Pinned := { name := "ytdagdamliggfmaa", sum := "02a4fc8256963126eefd6b9ca308ed41bc1943e845225a96984022fd95a2f653", checked := Try.checked }
namespace Rows
def none {H : Type} : Left H := { results := [], args := [] }

/-- 'ordinallaw32.TrioPermutes': WHATEVER THE INPUT: true; the input reads as it did. -/
def trioPermutesSpec : ChangeSpec := { name := "trioPermutes", fn := fun _ => fun
  | [d1, d2] => { results := [.lit (.bool true)], args := [d1, d2] }
  | _ => none }
def trioPermutesRow : OpenClaim := { program := "ytdagdamliggfmaa", sum := "02a4fc8256963126eefd6b9ca308ed41bc1943e845225a96984022fd95a2f653", func := "ordinal/ordinallaw32.TrioPermutes", spec := "trioPermutes", unfollowed := true, recurses := true, apart := false }
def TrioPermutesSaid : Prop := trioPermutesRow.holds Try.pinned (OpenSpec.ofChange trioPermutesSpec)

/-- ITS FALSE NEIGHBOUR: 'it returns false'. Refute it at one input. -/
def trioPermutesWrong : ChangeSpec := { name := "trioPermutes", fn := fun _ => fun
  | [d1, d2] => { results := [.lit (.bool false)], args := [d1, d2] }
  | _ => none }
def TrioPermutesWrongFalsely : Prop := trioPermutesRow.holds Try.pinned (OpenSpec.ofChange trioPermutesWrong)

/-- 'ordinallaw32.TrioFinds': WHATEVER THE INPUT: true; the input reads as it did. -/
def trioFindsSpec : ChangeSpec := { name := "trioFinds", fn := fun _ => fun
  | [d1, d2, d3] => { results := [.lit (.bool true)], args := [d1, d2, d3] }
  | _ => none }
def trioFindsRow : OpenClaim := { program := "ytdagdamliggfmaa", sum := "02a4fc8256963126eefd6b9ca308ed41bc1943e845225a96984022fd95a2f653", func := "ordinal/ordinallaw32.TrioFinds", spec := "trioFinds", unfollowed := true, recurses := true, apart := false }
def TrioFindsSaid : Prop := trioFindsRow.holds Try.pinned (OpenSpec.ofChange trioFindsSpec)

/-- ITS FALSE NEIGHBOUR: 'it returns false'. Refute it at one input. -/
def trioFindsWrong : ChangeSpec := { name := "trioFinds", fn := fun _ => fun
  | [d1, d2, d3] => { results := [.lit (.bool false)], args := [d1, d2, d3] }
  | _ => none }
def TrioFindsWrongFalsely : Prop := trioFindsRow.holds Try.pinned (OpenSpec.ofChange trioFindsWrong)

/-- 'ordinallaw32.TrioFills': WHATEVER THE INPUT: true; the input reads as it did. -/
def trioFillsSpec : ChangeSpec := { name := "trioFills", fn := fun _ => fun
  | [d1, d2] => { results := [.lit (.bool true)], args := [d1, d2] }
  | _ => none }
def trioFillsRow : OpenClaim := { program := "ytdagdamliggfmaa", sum := "02a4fc8256963126eefd6b9ca308ed41bc1943e845225a96984022fd95a2f653", func := "ordinal/ordinallaw32.TrioFills", spec := "trioFills", unfollowed := true, recurses := true, apart := false }
def TrioFillsSaid : Prop := trioFillsRow.holds Try.pinned (OpenSpec.ofChange trioFillsSpec)

/-- ITS FALSE NEIGHBOUR: 'it returns false'. Refute it at one input. -/
def trioFillsWrong : ChangeSpec := { name := "trioFills", fn := fun _ => fun
  | [d1, d2] => { results := [.lit (.bool false)], args := [d1, d2] }
  | _ => none }
def TrioFillsWrongFalsely : Prop := trioFillsRow.holds Try.pinned (OpenSpec.ofChange trioFillsWrong)

/-- 'ordinallaw32.TrioOrders': WHATEVER THE INPUT: true; the input reads as it did. -/
def trioOrdersSpec : ChangeSpec := { name := "trioOrders", fn := fun _ => fun
  | [d] => { results := [.lit (.bool true)], args := [d] }
  | _ => none }
def trioOrdersRow : OpenClaim := { program := "ytdagdamliggfmaa", sum := "02a4fc8256963126eefd6b9ca308ed41bc1943e845225a96984022fd95a2f653", func := "ordinal/ordinallaw32.TrioOrders", spec := "trioOrders", unfollowed := true, recurses := true, apart := false }
def TrioOrdersSaid : Prop := trioOrdersRow.holds Try.pinned (OpenSpec.ofChange trioOrdersSpec)

/-- ITS FALSE NEIGHBOUR: 'it returns false'. Refute it at one input. -/
def trioOrdersWrong : ChangeSpec := { name := "trioOrders", fn := fun _ => fun
  | [d] => { results := [.lit (.bool false)], args := [d] }
  | _ => none }
def TrioOrdersWrongFalsely : Prop := trioOrdersRow.holds Try.pinned (OpenSpec.ofChange trioOrdersWrong)

/-- 'ordinallaw32.TrioBack': WHATEVER THE INPUT: true; the input reads as it did. -/
def trioBackSpec : ChangeSpec := { name := "trioBack", fn := fun _ => fun
  | [d1, d2] => { results := [.lit (.bool true)], args := [d1, d2] }
  | _ => none }
def trioBackRow : OpenClaim := { program := "ytdagdamliggfmaa", sum := "02a4fc8256963126eefd6b9ca308ed41bc1943e845225a96984022fd95a2f653", func := "ordinal/ordinallaw32.TrioBack", spec := "trioBack", unfollowed := true, recurses := true, apart := false }
def TrioBackSaid : Prop := trioBackRow.holds Try.pinned (OpenSpec.ofChange trioBackSpec)

/-- ITS FALSE NEIGHBOUR: 'it returns false'. Refute it at one input. -/
def trioBackWrong : ChangeSpec := { name := "trioBack", fn := fun _ => fun
  | [d1, d2] => { results := [.lit (.bool false)], args := [d1, d2] }
  | _ => none }
def TrioBackWrongFalsely : Prop := trioBackRow.holds Try.pinned (OpenSpec.ofChange trioBackWrong)

/-- 'ordinallaw32.TrioDecides': WHATEVER THE INPUT: true; the input reads as it did. -/
def trioDecidesSpec : ChangeSpec := { name := "trioDecides", fn := fun _ => fun
  | [d] => { results := [.lit (.bool true)], args := [d] }
  | _ => none }
def trioDecidesRow : OpenClaim := { program := "ytdagdamliggfmaa", sum := "02a4fc8256963126eefd6b9ca308ed41bc1943e845225a96984022fd95a2f653", func := "ordinal/ordinallaw32.TrioDecides", spec := "trioDecides", unfollowed := true, recurses := true, apart := false }
def TrioDecidesSaid : Prop := trioDecidesRow.holds Try.pinned (OpenSpec.ofChange trioDecidesSpec)

/-- ITS FALSE NEIGHBOUR: 'it returns false'. Refute it at one input. -/
def trioDecidesWrong : ChangeSpec := { name := "trioDecides", fn := fun _ => fun
  | [d] => { results := [.lit (.bool false)], args := [d] }
  | _ => none }
def TrioDecidesWrongFalsely : Prop := trioDecidesRow.holds Try.pinned (OpenSpec.ofChange trioDecidesWrong)

/- THE SECOND FORM. 'bulk': how many values and letters a reading holds, each counted each time it is reached (what is shared counts as often as it is met; a slice's spare places count too). A statement '..UptoSaid' is the law's where the arguments, and the package variables that the reading takes, are together of bulk at most 1048576: NARROWER than '..Said'. Prove '..Said' where nothing that the law and all that it calls make is longer than what came in: it says more and counts as full. Else prove '..UptoSaid'. A law counts once. -/
mutual
def uptoBulk {H : Type} : DataW H → Nat
  | .lit (.string bytes) => bytes.length + 1
  | .lit _ => 1
  | .nil => 1
  | .ptr d => uptoBulk d + 1
  | .slice elems spare => uptoBulkAll elems + uptoBulkAll spare + 1
  | .agg parts => uptoBulkAll parts + 1
  | .iface _ d => uptoBulk d + 1
  | .map entries => uptoBulkEntries entries + 1
  | .held _ => 1
def uptoBulkAll {H : Type} : List (DataW H) → Nat
  | [] => 0
  | d :: r => uptoBulk d + uptoBulkAll r
def uptoBulkEntries {H : Type} : List (Lit × DataW H) → Nat
  | [] => 0
  | x :: r => uptoBulkEntry x + uptoBulkEntries r
def uptoBulkEntry {H : Type} : Lit × DataW H → Nat
  | (.string bytes, d) => bytes.length + uptoBulk d + 1
  | (_, d) => uptoBulk d + 1
 end
def uptoSmall : (H : Type) → List (DataW H) → Bool := fun _ ds => decide (uptoBulkAll ds ≤ 1048576)
def OpenSpec.upto (s : _root_.Go.ChangeSpec) : _root_.Go.OpenSpec := { _root_.Go.OpenSpec.ofChange s with cond := some uptoSmall }

/-- 'ordinallaw32.TrioPermutes', WHERE WHAT IT READS IS OF BULK AT MOST 1048576: true; the input reads as it did. -/
def trioPermutesUptoRow : OpenClaim := { program := "ytdagdamliggfmaa", sum := "02a4fc8256963126eefd6b9ca308ed41bc1943e845225a96984022fd95a2f653", func := "ordinal/ordinallaw32.TrioPermutes", spec := "trioPermutes", unfollowed := true, recurses := true, apart := false, narrowed := true }
def TrioPermutesUptoSaid : Prop := trioPermutesUptoRow.holds Try.pinned (OpenSpec.upto trioPermutesSpec)

/-- 'ordinallaw32.TrioFinds', WHERE WHAT IT READS IS OF BULK AT MOST 1048576: true; the input reads as it did. -/
def trioFindsUptoRow : OpenClaim := { program := "ytdagdamliggfmaa", sum := "02a4fc8256963126eefd6b9ca308ed41bc1943e845225a96984022fd95a2f653", func := "ordinal/ordinallaw32.TrioFinds", spec := "trioFinds", unfollowed := true, recurses := true, apart := false, narrowed := true }
def TrioFindsUptoSaid : Prop := trioFindsUptoRow.holds Try.pinned (OpenSpec.upto trioFindsSpec)

/-- 'ordinallaw32.TrioFills', WHERE WHAT IT READS IS OF BULK AT MOST 1048576: true; the input reads as it did. -/
def trioFillsUptoRow : OpenClaim := { program := "ytdagdamliggfmaa", sum := "02a4fc8256963126eefd6b9ca308ed41bc1943e845225a96984022fd95a2f653", func := "ordinal/ordinallaw32.TrioFills", spec := "trioFills", unfollowed := true, recurses := true, apart := false, narrowed := true }
def TrioFillsUptoSaid : Prop := trioFillsUptoRow.holds Try.pinned (OpenSpec.upto trioFillsSpec)

/-- 'ordinallaw32.TrioOrders', WHERE WHAT IT READS IS OF BULK AT MOST 1048576: true; the input reads as it did. -/
def trioOrdersUptoRow : OpenClaim := { program := "ytdagdamliggfmaa", sum := "02a4fc8256963126eefd6b9ca308ed41bc1943e845225a96984022fd95a2f653", func := "ordinal/ordinallaw32.TrioOrders", spec := "trioOrders", unfollowed := true, recurses := true, apart := false, narrowed := true }
def TrioOrdersUptoSaid : Prop := trioOrdersUptoRow.holds Try.pinned (OpenSpec.upto trioOrdersSpec)

/-- 'ordinallaw32.TrioBack', WHERE WHAT IT READS IS OF BULK AT MOST 1048576: true; the input reads as it did. -/
def trioBackUptoRow : OpenClaim := { program := "ytdagdamliggfmaa", sum := "02a4fc8256963126eefd6b9ca308ed41bc1943e845225a96984022fd95a2f653", func := "ordinal/ordinallaw32.TrioBack", spec := "trioBack", unfollowed := true, recurses := true, apart := false, narrowed := true }
def TrioBackUptoSaid : Prop := trioBackUptoRow.holds Try.pinned (OpenSpec.upto trioBackSpec)

/-- 'ordinallaw32.TrioDecides', WHERE WHAT IT READS IS OF BULK AT MOST 1048576: true; the input reads as it did. -/
def trioDecidesUptoRow : OpenClaim := { program := "ytdagdamliggfmaa", sum := "02a4fc8256963126eefd6b9ca308ed41bc1943e845225a96984022fd95a2f653", func := "ordinal/ordinallaw32.TrioDecides", spec := "trioDecides", unfollowed := true, recurses := true, apart := false, narrowed := true }
def TrioDecidesUptoSaid : Prop := trioDecidesUptoRow.holds Try.pinned (OpenSpec.upto trioDecidesSpec)

end Rows
end Go.Proofs.Ytdagdamliggfmaa
