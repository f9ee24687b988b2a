/-
  No cell of these rows narrows 'for every input' (looked for: loops, veiled, ifaces, maps, wideKeys, modest, calm, conditions, laid).
  DERIVED. THE GIVEN ROWS OF THIS SEAT. 6 by the template 'for every input the law returns true; each argument reads behind the call as it read before'; 0 by the template 'total and deterministic' (their statements: YtkiahnffepbgpaaTotals.lean).
  GIVEN WITH THE SEED: the statements are not yours to turn. If you find one false, say at which input.
  Laid BY PROGRAM, IN A SANDBOX (cutbox-rows.mjs): the forced cells as the released guide's own fill.sh prints them over the translation f6728c1c247c4655… (all of the seat's roots in one cut). By AI agents, Wed Nov 11 2026. No macro, syntax, notation, axiom, sorry.
-/
import Derived.Test.YtkiahnffepbgpaaChecked
import GoSem.Claim
import GoSem.ClaimJoined
import GoSem.ClaimMapViews
import Derived.JoinedTies
import Derived.KernelRfl
namespace Go.Proofs.Ytkiahnffepbgpaa
/- THE CELL 'sum', in the pinned program and in every row, IS THE sha256 OF THE DUMP (.gsa) THAT YtkiahnffepbgpaaProg.lean LOADS. Nothing in Lean hashes anything: it is a label: what it is worth is what the hold of that sum in a sandbox is worth. -/
noncomputable def Try.pinned : Pinned := { name := "ytkiahnffepbgpaa", sum := "f6728c1c247c4655f90ea047110302b1473604baf4b05ae6c7cbac3dc2c7ea64", checked := Try.checked }
namespace Rows
def none {H : Type} : Left H := { results := [], args := [] }

/-- 'ordinallaw26.HypergraphReduces': WHATEVER THE INPUT: true; the input reads as it did. -/
def hypergraphReducesSpec : ChangeSpec := { name := "hypergraphReduces", fn := fun _ => fun
  | [d] => { results := [.lit (.bool true)], args := [d] }
  | _ => none }
def hypergraphReducesRow : OpenClaim := { program := "ytkiahnffepbgpaa", sum := "f6728c1c247c4655f90ea047110302b1473604baf4b05ae6c7cbac3dc2c7ea64", func := "ordinal/ordinallaw26.HypergraphReduces", spec := "hypergraphReduces", unfollowed := true, recurses := true, apart := false }
def HypergraphReducesSaid : Prop := hypergraphReducesRow.holds Try.pinned (OpenSpec.ofChange hypergraphReducesSpec)

/-- ITS FALSE NEIGHBOUR: 'it returns false'. Refute it at one input. -/
def hypergraphReducesWrong : ChangeSpec := { name := "hypergraphReduces", fn := fun _ => fun
  | [d] => { results := [.lit (.bool false)], args := [d] }
  | _ => none }
def HypergraphReducesWrongFalsely : Prop := hypergraphReducesRow.holds Try.pinned (OpenSpec.ofChange hypergraphReducesWrong)

/-- 'ordinallaw26.HypergraphRenames': WHATEVER THE INPUT: true; the input reads as it did. -/
def hypergraphRenamesSpec : ChangeSpec := { name := "hypergraphRenames", fn := fun _ => fun
  | [d1, d2, d3] => { results := [.lit (.bool true)], args := [d1, d2, d3] }
  | _ => none }
def hypergraphRenamesRow : OpenClaim := { program := "ytkiahnffepbgpaa", sum := "f6728c1c247c4655f90ea047110302b1473604baf4b05ae6c7cbac3dc2c7ea64", func := "ordinal/ordinallaw26.HypergraphRenames", spec := "hypergraphRenames", unfollowed := true, recurses := true, apart := false }
def HypergraphRenamesSaid : Prop := hypergraphRenamesRow.holds Try.pinned (OpenSpec.ofChange hypergraphRenamesSpec)

/-- ITS FALSE NEIGHBOUR: 'it returns false'. Refute it at one input. -/
def hypergraphRenamesWrong : ChangeSpec := { name := "hypergraphRenames", fn := fun _ => fun
  | [d1, d2, d3] => { results := [.lit (.bool false)], args := [d1, d2, d3] }
  | _ => none }
def HypergraphRenamesWrongFalsely : Prop := hypergraphRenamesRow.holds Try.pinned (OpenSpec.ofChange hypergraphRenamesWrong)

/-- 'ordinallaw26.HypergraphMakes': WHATEVER THE INPUT: true; the input reads as it did. -/
def hypergraphMakesSpec : ChangeSpec := { name := "hypergraphMakes", fn := fun _ => fun
  | [d1, d2] => { results := [.lit (.bool true)], args := [d1, d2] }
  | _ => none }
def hypergraphMakesRow : OpenClaim := { program := "ytkiahnffepbgpaa", sum := "f6728c1c247c4655f90ea047110302b1473604baf4b05ae6c7cbac3dc2c7ea64", func := "ordinal/ordinallaw26.HypergraphMakes", spec := "hypergraphMakes", unfollowed := true, recurses := true, apart := false }
def HypergraphMakesSaid : Prop := hypergraphMakesRow.holds Try.pinned (OpenSpec.ofChange hypergraphMakesSpec)

/-- ITS FALSE NEIGHBOUR: 'it returns false'. Refute it at one input. -/
def hypergraphMakesWrong : ChangeSpec := { name := "hypergraphMakes", fn := fun _ => fun
  | [d1, d2] => { results := [.lit (.bool false)], args := [d1, d2] }
  | _ => none }
def HypergraphMakesWrongFalsely : Prop := hypergraphMakesRow.holds Try.pinned (OpenSpec.ofChange hypergraphMakesWrong)

/-- 'ordinallaw26.HypergraphObstructs': WHATEVER THE INPUT: true; the input reads as it did. -/
def hypergraphObstructsSpec : ChangeSpec := { name := "hypergraphObstructs", fn := fun _ => fun
  | [d1, d2] => { results := [.lit (.bool true)], args := [d1, d2] }
  | _ => none }
def hypergraphObstructsRow : OpenClaim := { program := "ytkiahnffepbgpaa", sum := "f6728c1c247c4655f90ea047110302b1473604baf4b05ae6c7cbac3dc2c7ea64", func := "ordinal/ordinallaw26.HypergraphObstructs", spec := "hypergraphObstructs", unfollowed := true, recurses := true, apart := false }
def HypergraphObstructsSaid : Prop := hypergraphObstructsRow.holds Try.pinned (OpenSpec.ofChange hypergraphObstructsSpec)

/-- ITS FALSE NEIGHBOUR: 'it returns false'. Refute it at one input. -/
def hypergraphObstructsWrong : ChangeSpec := { name := "hypergraphObstructs", fn := fun _ => fun
  | [d1, d2] => { results := [.lit (.bool false)], args := [d1, d2] }
  | _ => none }
def HypergraphObstructsWrongFalsely : Prop := hypergraphObstructsRow.holds Try.pinned (OpenSpec.ofChange hypergraphObstructsWrong)

/-- 'ordinallaw26.HypergraphCyclic': WHATEVER THE INPUT: true; the input reads as it did. -/
def hypergraphCyclicSpec : ChangeSpec := { name := "hypergraphCyclic", fn := fun _ => fun
  | [d] => { results := [.lit (.bool true)], args := [d] }
  | _ => none }
def hypergraphCyclicRow : OpenClaim := { program := "ytkiahnffepbgpaa", sum := "f6728c1c247c4655f90ea047110302b1473604baf4b05ae6c7cbac3dc2c7ea64", func := "ordinal/ordinallaw26.HypergraphCyclic", spec := "hypergraphCyclic", unfollowed := true, recurses := true, apart := false }
def HypergraphCyclicSaid : Prop := hypergraphCyclicRow.holds Try.pinned (OpenSpec.ofChange hypergraphCyclicSpec)

/-- ITS FALSE NEIGHBOUR: 'it returns false'. Refute it at one input. -/
def hypergraphCyclicWrong : ChangeSpec := { name := "hypergraphCyclic", fn := fun _ => fun
  | [d] => { results := [.lit (.bool false)], args := [d] }
  | _ => none }
def HypergraphCyclicWrongFalsely : Prop := hypergraphCyclicRow.holds Try.pinned (OpenSpec.ofChange hypergraphCyclicWrong)

/-- 'ordinallaw26.HypergraphBasics': WHATEVER THE INPUT: true; the input reads as it did. -/
def hypergraphBasicsSpec : ChangeSpec := { name := "hypergraphBasics", fn := fun _ => fun
  | [d1, d2, d3] => { results := [.lit (.bool true)], args := [d1, d2, d3] }
  | _ => none }
def hypergraphBasicsRow : OpenClaim := { program := "ytkiahnffepbgpaa", sum := "f6728c1c247c4655f90ea047110302b1473604baf4b05ae6c7cbac3dc2c7ea64", func := "ordinal/ordinallaw26.HypergraphBasics", spec := "hypergraphBasics", unfollowed := true, recurses := true, apart := false }
def HypergraphBasicsSaid : Prop := hypergraphBasicsRow.holds Try.pinned (OpenSpec.ofChange hypergraphBasicsSpec)

/-- ITS FALSE NEIGHBOUR: 'it returns false'. Refute it at one input. -/
def hypergraphBasicsWrong : ChangeSpec := { name := "hypergraphBasics", fn := fun _ => fun
  | [d1, d2, d3] => { results := [.lit (.bool false)], args := [d1, d2, d3] }
  | _ => none }
def HypergraphBasicsWrongFalsely : Prop := hypergraphBasicsRow.holds Try.pinned (OpenSpec.ofChange hypergraphBasicsWrong)

/- THE SECOND FORM. 'bulk': how many values and letters a reading holds, each counted each time it is reached (what is shared counts as often as it is met; a slice's spare places count too). A statement '..UptoSaid' is the law's where the arguments, and the package variables that the reading takes, are together of bulk at most 1048576: NARROWER than '..Said'. Prove '..Said' where nothing that the law and all that it calls make is longer than what came in: it says more and counts as full. Else prove '..UptoSaid'. A law counts once. -/
mutual
def uptoBulk {H : Type} : DataW H → Nat
  | .lit (.string bytes) => bytes.length + 1
  | .lit _ => 1
  | .nil => 1
  | .ptr d => uptoBulk d + 1
  | .slice elems spare => uptoBulkAll elems + uptoBulkAll spare + 1
  | .agg parts => uptoBulkAll parts + 1
  | .iface _ d => uptoBulk d + 1
  | .map entries => uptoBulkEntries entries + 1
  | .held _ => 1
def uptoBulkAll {H : Type} : List (DataW H) → Nat
  | [] => 0
  | d :: r => uptoBulk d + uptoBulkAll r
def uptoBulkEntries {H : Type} : List (Lit × DataW H) → Nat
  | [] => 0
  | x :: r => uptoBulkEntry x + uptoBulkEntries r
def uptoBulkEntry {H : Type} : Lit × DataW H → Nat
  | (.string bytes, d) => bytes.length + uptoBulk d + 1
  | (_, d) => uptoBulk d + 1
 end
def uptoSmall : (H : Type) → List (DataW H) → Bool := fun _ ds => decide (uptoBulkAll ds ≤ 1048576)
def OpenSpec.upto (s : _root_.Go.ChangeSpec) : _root_.Go.OpenSpec := { _root_.Go.OpenSpec.ofChange s with cond := some uptoSmall }

/-- 'ordinallaw26.HypergraphReduces', WHERE WHAT IT READS IS OF BULK AT MOST 1048576: true; the input reads as it did. -/
def hypergraphReducesUptoRow : OpenClaim := { program := "ytkiahnffepbgpaa", sum := "f6728c1c247c4655f90ea047110302b1473604baf4b05ae6c7cbac3dc2c7ea64", func := "ordinal/ordinallaw26.HypergraphReduces", spec := "hypergraphReduces", unfollowed := true, recurses := true, apart := false, narrowed := true }
def HypergraphReducesUptoSaid : Prop := hypergraphReducesUptoRow.holds Try.pinned (OpenSpec.upto hypergraphReducesSpec)

/-- 'ordinallaw26.HypergraphRenames', WHERE WHAT IT READS IS OF BULK AT MOST 1048576: true; the input reads as it did. -/
def hypergraphRenamesUptoRow : OpenClaim := { program := "ytkiahnffepbgpaa", sum := "f6728c1c247c4655f90ea047110302b1473604baf4b05ae6c7cbac3dc2c7ea64", func := "ordinal/ordinallaw26.HypergraphRenames", spec := "hypergraphRenames", unfollowed := true, recurses := true, apart := false, narrowed := true }
def HypergraphRenamesUptoSaid : Prop := hypergraphRenamesUptoRow.holds Try.pinned (OpenSpec.upto hypergraphRenamesSpec)

/-- 'ordinallaw26.HypergraphMakes', WHERE WHAT IT READS IS OF BULK AT MOST 1048576: true; the input reads as it did. -/
def hypergraphMakesUptoRow : OpenClaim := { program := "ytkiahnffepbgpaa", sum := "f6728c1c247c4655f90ea047110302b1473604baf4b05ae6c7cbac3dc2c7ea64", func := "ordinal/ordinallaw26.HypergraphMakes", spec := "hypergraphMakes", unfollowed := true, recurses := true, apart := false, narrowed := true }
def HypergraphMakesUptoSaid : Prop := hypergraphMakesUptoRow.holds Try.pinned (OpenSpec.upto hypergraphMakesSpec)

/-- 'ordinallaw26.HypergraphObstructs', WHERE WHAT IT READS IS OF BULK AT MOST 1048576: true; the input reads as it did. -/
def hypergraphObstructsUptoRow : OpenClaim := { program := "ytkiahnffepbgpaa", sum := "f6728c1c247c4655f90ea047110302b1473604baf4b05ae6c7cbac3dc2c7ea64", func := "ordinal/ordinallaw26.HypergraphObstructs", spec := "hypergraphObstructs", unfollowed := true, recurses := true, apart := false, narrowed := true }
def HypergraphObstructsUptoSaid : Prop := hypergraphObstructsUptoRow.holds Try.pinned (OpenSpec.upto hypergraphObstructsSpec)

/-- 'ordinallaw26.HypergraphCyclic', WHERE WHAT IT READS IS OF BULK AT MOST 1048576: true; the input reads as it did. -/
def hypergraphCyclicUptoRow : OpenClaim := { program := "ytkiahnffepbgpaa", sum := "f6728c1c247c4655f90ea047110302b1473604baf4b05ae6c7cbac3dc2c7ea64", func := "ordinal/ordinallaw26.HypergraphCyclic", spec := "hypergraphCyclic", unfollowed := true, recurses := true, apart := false, narrowed := true }
def HypergraphCyclicUptoSaid : Prop := hypergraphCyclicUptoRow.holds Try.pinned (OpenSpec.upto hypergraphCyclicSpec)

/-- 'ordinallaw26.HypergraphBasics', WHERE WHAT IT READS IS OF BULK AT MOST 1048576: true; the input reads as it did. -/
def hypergraphBasicsUptoRow : OpenClaim := { program := "ytkiahnffepbgpaa", sum := "f6728c1c247c4655f90ea047110302b1473604baf4b05ae6c7cbac3dc2c7ea64", func := "ordinal/ordinallaw26.HypergraphBasics", spec := "hypergraphBasics", unfollowed := true, recurses := true, apart := false, narrowed := true }
def HypergraphBasicsUptoSaid : Prop := hypergraphBasicsUptoRow.holds Try.pinned (OpenSpec.upto hypergraphBasicsSpec)

end Rows
end Go.Proofs.Ytkiahnffepbgpaa
