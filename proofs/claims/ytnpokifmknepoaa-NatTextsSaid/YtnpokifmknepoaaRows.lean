/-
  No cell of these rows narrows 'for every input' (looked for: loops, veiled, ifaces, maps, wideKeys, modest, calm, conditions, laid).
  DERIVED. THE GIVEN ROWS OF THIS SEAT. 7 by the template 'for every input the law returns true; each argument reads behind the call as it read before'; 0 by the template 'total and deterministic' (their statements: YtnpokifmknepoaaTotals.lean).
  GIVEN WITH THE SEED: the statements are not yours to turn. If you find one false, say at which input.
  Laid BY PROGRAM, IN A SANDBOX (cutbox-rows.mjs): the forced cells as the released guide's own fill.sh prints them over the translation 9fad40c50a4d108a… (all of the seat's roots in one cut). By AI agents, Wed Nov 11 2026. No macro, syntax, notation, axiom, sorry.
-/
import Derived.Test.YtnpokifmknepoaaChecked
import GoSem.Claim
import GoSem.ClaimJoined
import GoSem.ClaimMapViews
import Derived.JoinedTies
import Derived.KernelRfl
namespace Go.Proofs.Ytnpokifmknepoaa
/- THE CELL 'sum', in the pinned program and in every row, IS THE sha256 OF THE DUMP (.gsa) THAT YtnpokifmknepoaaProg.lean LOADS. Nothing in Lean hashes anything: it is a label: what it is worth is what the hold of that sum in a sandbox is worth. -/
noncomputable def Try.pinned : Pinned := { name := "ytnpokifmknepoaa", sum := "9fad40c50a4d108ab4359ded1354200f45cfa5672e13267b8192aa6d6f7737d7", checked := Try.checked }
namespace Rows
def none {H : Type} : Left H := { results := [], args := [] }

/-- 'ordinallaw04.NatCompares': WHATEVER THE INPUT: true; the input reads as it did. -/
def natComparesSpec : ChangeSpec := { name := "natCompares", fn := fun _ => fun
  | [d1, d2, d3] => { results := [.lit (.bool true)], args := [d1, d2, d3] }
  | _ => none }
def natComparesRow : OpenClaim := { program := "ytnpokifmknepoaa", sum := "9fad40c50a4d108ab4359ded1354200f45cfa5672e13267b8192aa6d6f7737d7", func := "ordinal/ordinallaw04.NatCompares", spec := "natCompares", apart := false }
def NatComparesSaid : Prop := natComparesRow.holds Try.pinned (OpenSpec.ofChange natComparesSpec)

/-- ITS FALSE NEIGHBOUR: 'it returns false'. Refute it at one input. -/
def natComparesWrong : ChangeSpec := { name := "natCompares", fn := fun _ => fun
  | [d1, d2, d3] => { results := [.lit (.bool false)], args := [d1, d2, d3] }
  | _ => none }
def NatComparesWrongFalsely : Prop := natComparesRow.holds Try.pinned (OpenSpec.ofChange natComparesWrong)

/-- 'ordinallaw04.NatPowers': WHATEVER THE INPUT: true; the input reads as it did. -/
def natPowersSpec : ChangeSpec := { name := "natPowers", fn := fun _ => fun
  | [d1, d2, d3] => { results := [.lit (.bool true)], args := [d1, d2, d3] }
  | _ => none }
def natPowersRow : OpenClaim := { program := "ytnpokifmknepoaa", sum := "9fad40c50a4d108ab4359ded1354200f45cfa5672e13267b8192aa6d6f7737d7", func := "ordinal/ordinallaw04.NatPowers", spec := "natPowers", apart := false }
def NatPowersSaid : Prop := natPowersRow.holds Try.pinned (OpenSpec.ofChange natPowersSpec)

/-- ITS FALSE NEIGHBOUR: 'it returns false'. Refute it at one input. -/
def natPowersWrong : ChangeSpec := { name := "natPowers", fn := fun _ => fun
  | [d1, d2, d3] => { results := [.lit (.bool false)], args := [d1, d2, d3] }
  | _ => none }
def NatPowersWrongFalsely : Prop := natPowersRow.holds Try.pinned (OpenSpec.ofChange natPowersWrong)

/-- 'ordinallaw04.NatSums': WHATEVER THE INPUT: true; the input reads as it did. -/
def natSumsSpec : ChangeSpec := { name := "natSums", fn := fun _ => fun
  | [d] => { results := [.lit (.bool true)], args := [d] }
  | _ => none }
def natSumsRow : OpenClaim := { program := "ytnpokifmknepoaa", sum := "9fad40c50a4d108ab4359ded1354200f45cfa5672e13267b8192aa6d6f7737d7", func := "ordinal/ordinallaw04.NatSums", spec := "natSums", apart := false }
def NatSumsSaid : Prop := natSumsRow.holds Try.pinned (OpenSpec.ofChange natSumsSpec)

/-- ITS FALSE NEIGHBOUR: 'it returns false'. Refute it at one input. -/
def natSumsWrong : ChangeSpec := { name := "natSums", fn := fun _ => fun
  | [d] => { results := [.lit (.bool false)], args := [d] }
  | _ => none }
def NatSumsWrongFalsely : Prop := natSumsRow.holds Try.pinned (OpenSpec.ofChange natSumsWrong)

/-- 'ordinallaw04.NatArithmetic': WHATEVER THE INPUT: true; the input reads as it did. -/
def natArithmeticSpec : ChangeSpec := { name := "natArithmetic", fn := fun _ => fun
  | [d1, d2] => { results := [.lit (.bool true)], args := [d1, d2] }
  | _ => none }
def natArithmeticRow : OpenClaim := { program := "ytnpokifmknepoaa", sum := "9fad40c50a4d108ab4359ded1354200f45cfa5672e13267b8192aa6d6f7737d7", func := "ordinal/ordinallaw04.NatArithmetic", spec := "natArithmetic", apart := false }
def NatArithmeticSaid : Prop := natArithmeticRow.holds Try.pinned (OpenSpec.ofChange natArithmeticSpec)

/-- ITS FALSE NEIGHBOUR: 'it returns false'. Refute it at one input. -/
def natArithmeticWrong : ChangeSpec := { name := "natArithmetic", fn := fun _ => fun
  | [d1, d2] => { results := [.lit (.bool false)], args := [d1, d2] }
  | _ => none }
def NatArithmeticWrongFalsely : Prop := natArithmeticRow.holds Try.pinned (OpenSpec.ofChange natArithmeticWrong)

/-- 'ordinallaw04.NatRing': WHATEVER THE INPUT: true; the input reads as it did. -/
def natRingSpec : ChangeSpec := { name := "natRing", fn := fun _ => fun
  | [d1, d2, d3] => { results := [.lit (.bool true)], args := [d1, d2, d3] }
  | _ => none }
def natRingRow : OpenClaim := { program := "ytnpokifmknepoaa", sum := "9fad40c50a4d108ab4359ded1354200f45cfa5672e13267b8192aa6d6f7737d7", func := "ordinal/ordinallaw04.NatRing", spec := "natRing", apart := false }
def NatRingSaid : Prop := natRingRow.holds Try.pinned (OpenSpec.ofChange natRingSpec)

/-- ITS FALSE NEIGHBOUR: 'it returns false'. Refute it at one input. -/
def natRingWrong : ChangeSpec := { name := "natRing", fn := fun _ => fun
  | [d1, d2, d3] => { results := [.lit (.bool false)], args := [d1, d2, d3] }
  | _ => none }
def NatRingWrongFalsely : Prop := natRingRow.holds Try.pinned (OpenSpec.ofChange natRingWrong)

/-- 'ordinallaw04.NatDivides': WHATEVER THE INPUT: true; the input reads as it did. -/
def natDividesSpec : ChangeSpec := { name := "natDivides", fn := fun _ => fun
  | [d1, d2] => { results := [.lit (.bool true)], args := [d1, d2] }
  | _ => none }
def natDividesRow : OpenClaim := { program := "ytnpokifmknepoaa", sum := "9fad40c50a4d108ab4359ded1354200f45cfa5672e13267b8192aa6d6f7737d7", func := "ordinal/ordinallaw04.NatDivides", spec := "natDivides", apart := false }
def NatDividesSaid : Prop := natDividesRow.holds Try.pinned (OpenSpec.ofChange natDividesSpec)

/-- ITS FALSE NEIGHBOUR: 'it returns false'. Refute it at one input. -/
def natDividesWrong : ChangeSpec := { name := "natDivides", fn := fun _ => fun
  | [d1, d2] => { results := [.lit (.bool false)], args := [d1, d2] }
  | _ => none }
def NatDividesWrongFalsely : Prop := natDividesRow.holds Try.pinned (OpenSpec.ofChange natDividesWrong)

/-- 'ordinallaw04.NatTexts': WHATEVER THE INPUT: true; the input reads as it did. -/
def natTextsSpec : ChangeSpec := { name := "natTexts", fn := fun _ => fun
  | [d1, d2] => { results := [.lit (.bool true)], args := [d1, d2] }
  | _ => none }
def natTextsRow : OpenClaim := { program := "ytnpokifmknepoaa", sum := "9fad40c50a4d108ab4359ded1354200f45cfa5672e13267b8192aa6d6f7737d7", func := "ordinal/ordinallaw04.NatTexts", spec := "natTexts", apart := false }
def NatTextsSaid : Prop := natTextsRow.holds Try.pinned (OpenSpec.ofChange natTextsSpec)

/-- ITS FALSE NEIGHBOUR: 'it returns false'. Refute it at one input. -/
def natTextsWrong : ChangeSpec := { name := "natTexts", fn := fun _ => fun
  | [d1, d2] => { results := [.lit (.bool false)], args := [d1, d2] }
  | _ => none }
def NatTextsWrongFalsely : Prop := natTextsRow.holds Try.pinned (OpenSpec.ofChange natTextsWrong)

/- THE SECOND FORM. 'bulk': how many values and letters a reading holds, each counted each time it is reached (what is shared counts as often as it is met; a slice's spare places count too). A statement '..UptoSaid' is the law's where the arguments, and the package variables that the reading takes, are together of bulk at most 1048576: NARROWER than '..Said'. Prove '..Said' where nothing that the law and all that it calls make is longer than what came in: it says more and counts as full. Else prove '..UptoSaid'. A law counts once. -/
mutual
def uptoBulk {H : Type} : DataW H → Nat
  | .lit (.string bytes) => bytes.length + 1
  | .lit _ => 1
  | .nil => 1
  | .ptr d => uptoBulk d + 1
  | .slice elems spare => uptoBulkAll elems + uptoBulkAll spare + 1
  | .agg parts => uptoBulkAll parts + 1
  | .iface _ d => uptoBulk d + 1
  | .map entries => uptoBulkEntries entries + 1
  | .held _ => 1
def uptoBulkAll {H : Type} : List (DataW H) → Nat
  | [] => 0
  | d :: r => uptoBulk d + uptoBulkAll r
def uptoBulkEntries {H : Type} : List (Lit × DataW H) → Nat
  | [] => 0
  | x :: r => uptoBulkEntry x + uptoBulkEntries r
def uptoBulkEntry {H : Type} : Lit × DataW H → Nat
  | (.string bytes, d) => bytes.length + uptoBulk d + 1
  | (_, d) => uptoBulk d + 1
 end
def uptoSmall : (H : Type) → List (DataW H) → Bool := fun _ ds => decide (uptoBulkAll ds ≤ 1048576)
def OpenSpec.upto (s : _root_.Go.ChangeSpec) : _root_.Go.OpenSpec := { _root_.Go.OpenSpec.ofChange s with cond := some uptoSmall }

/-- 'ordinallaw04.NatCompares', WHERE WHAT IT READS IS OF BULK AT MOST 1048576: true; the input reads as it did. -/
def natComparesUptoRow : OpenClaim := { program := "ytnpokifmknepoaa", sum := "9fad40c50a4d108ab4359ded1354200f45cfa5672e13267b8192aa6d6f7737d7", func := "ordinal/ordinallaw04.NatCompares", spec := "natCompares", apart := false, narrowed := true }
def NatComparesUptoSaid : Prop := natComparesUptoRow.holds Try.pinned (OpenSpec.upto natComparesSpec)

/-- 'ordinallaw04.NatPowers', WHERE WHAT IT READS IS OF BULK AT MOST 1048576: true; the input reads as it did. -/
def natPowersUptoRow : OpenClaim := { program := "ytnpokifmknepoaa", sum := "9fad40c50a4d108ab4359ded1354200f45cfa5672e13267b8192aa6d6f7737d7", func := "ordinal/ordinallaw04.NatPowers", spec := "natPowers", apart := false, narrowed := true }
def NatPowersUptoSaid : Prop := natPowersUptoRow.holds Try.pinned (OpenSpec.upto natPowersSpec)

/-- 'ordinallaw04.NatSums', WHERE WHAT IT READS IS OF BULK AT MOST 1048576: true; the input reads as it did. -/
def natSumsUptoRow : OpenClaim := { program := "ytnpokifmknepoaa", sum := "9fad40c50a4d108ab4359ded1354200f45cfa5672e13267b8192aa6d6f7737d7", func := "ordinal/ordinallaw04.NatSums", spec := "natSums", apart := false, narrowed := true }
def NatSumsUptoSaid : Prop := natSumsUptoRow.holds Try.pinned (OpenSpec.upto natSumsSpec)

/-- 'ordinallaw04.NatArithmetic', WHERE WHAT IT READS IS OF BULK AT MOST 1048576: true; the input reads as it did. -/
def natArithmeticUptoRow : OpenClaim := { program := "ytnpokifmknepoaa", sum := "9fad40c50a4d108ab4359ded1354200f45cfa5672e13267b8192aa6d6f7737d7", func := "ordinal/ordinallaw04.NatArithmetic", spec := "natArithmetic", apart := false, narrowed := true }
def NatArithmeticUptoSaid : Prop := natArithmeticUptoRow.holds Try.pinned (OpenSpec.upto natArithmeticSpec)

/-- 'ordinallaw04.NatRing', WHERE WHAT IT READS IS OF BULK AT MOST 1048576: true; the input reads as it did. -/
def natRingUptoRow : OpenClaim := { program := "ytnpokifmknepoaa", sum := "9fad40c50a4d108ab4359ded1354200f45cfa5672e13267b8192aa6d6f7737d7", func := "ordinal/ordinallaw04.NatRing", spec := "natRing", apart := false, narrowed := true }
def NatRingUptoSaid : Prop := natRingUptoRow.holds Try.pinned (OpenSpec.upto natRingSpec)

/-- 'ordinallaw04.NatDivides', WHERE WHAT IT READS IS OF BULK AT MOST 1048576: true; the input reads as it did. -/
def natDividesUptoRow : OpenClaim := { program := "ytnpokifmknepoaa", sum := "9fad40c50a4d108ab4359ded1354200f45cfa5672e13267b8192aa6d6f7737d7", func := "ordinal/ordinallaw04.NatDivides", spec := "natDivides", apart := false, narrowed := true }
def NatDividesUptoSaid : Prop := natDividesUptoRow.holds Try.pinned (OpenSpec.upto natDividesSpec)

/-- 'ordinallaw04.NatTexts', WHERE WHAT IT READS IS OF BULK AT MOST 1048576: true; the input reads as it did. -/
def natTextsUptoRow : OpenClaim := { program := "ytnpokifmknepoaa", sum := "9fad40c50a4d108ab4359ded1354200f45cfa5672e13267b8192aa6d6f7737d7", func := "ordinal/ordinallaw04.NatTexts", spec := "natTexts", apart := false, narrowed := true }
def NatTextsUptoSaid : Prop := natTextsUptoRow.holds Try.pinned (OpenSpec.upto natTextsSpec)

end Rows
end Go.Proofs.Ytnpokifmknepoaa
