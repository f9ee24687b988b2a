/-
  No cell of these rows narrows 'for every input' (looked for: loops, veiled, ifaces, maps, wideKeys, modest, calm, conditions, laid).
  DERIVED. THE GIVEN ROWS OF THIS SEAT. 7 by the template 'for every input the law returns true; each argument reads behind the call as it read before'; 0 by the template 'total and deterministic' (their statements: YtifnbpkcnkfanaaTotals.lean).
  GIVEN WITH THE SEED: the statements are not yours to turn. If you find one false, say at which input.
  Laid BY PROGRAM, IN A SANDBOX (cutbox-rows.mjs): the forced cells as the released guide's own fill.sh prints them over the translation 44958e762521c12d… (all of the seat's roots in one cut). By AI agents, Wed Nov 11 2026. No macro, syntax, notation, axiom, sorry.
-/
import Derived.Test.YtifnbpkcnkfanaaChecked
import GoSem.Claim
import GoSem.ClaimJoined
import GoSem.ClaimMapViews
import Derived.JoinedTies
import Derived.KernelRfl
namespace Go.Proofs.Ytifnbpkcnkfanaa
/- THE CELL 'sum', in the pinned program and in every row, IS THE sha256 OF THE DUMP (.gsa) THAT YtifnbpkcnkfanaaProg.lean LOADS. Nothing in Lean hashes anything: it is a label: what it is worth is what the hold of that sum in a sandbox is worth. -/
noncomputable def Try.pinned : Pinned := { name := "ytifnbpkcnkfanaa", sum := "44958e762521c12d1f946845eaad69f1b1872ebc7751c3288cf8d2f6e04b1422", checked := Try.checked }
namespace Rows
def none {H : Type} : Left H := { results := [], args := [] }

/-- 'ordinallaw05.RatMakes': WHATEVER THE INPUT: true; the input reads as it did. -/
def ratMakesSpec : ChangeSpec := { name := "ratMakes", fn := fun _ => fun
  | [d1, d2] => { results := [.lit (.bool true)], args := [d1, d2] }
  | _ => none }
def ratMakesRow : OpenClaim := { program := "ytifnbpkcnkfanaa", sum := "44958e762521c12d1f946845eaad69f1b1872ebc7751c3288cf8d2f6e04b1422", func := "ordinal/ordinallaw05.RatMakes", spec := "ratMakes", inPlace := ["internal/abi.NoEscape", "internal/bytealg.MakeNoZero"], unfollowed := true, recurses := true, apart := false }
def RatMakesSaid : Prop := ratMakesRow.holds Try.pinned (OpenSpec.ofChange ratMakesSpec)

/-- ITS FALSE NEIGHBOUR: 'it returns false'. Refute it at one input. -/
def ratMakesWrong : ChangeSpec := { name := "ratMakes", fn := fun _ => fun
  | [d1, d2] => { results := [.lit (.bool false)], args := [d1, d2] }
  | _ => none }
def RatMakesWrongFalsely : Prop := ratMakesRow.holds Try.pinned (OpenSpec.ofChange ratMakesWrong)

/-- 'ordinallaw05.RatFields': WHATEVER THE INPUT: true; the input reads as it did. -/
def ratFieldsSpec : ChangeSpec := { name := "ratFields", fn := fun _ => fun
  | [d1, d2, d3] => { results := [.lit (.bool true)], args := [d1, d2, d3] }
  | _ => none }
def ratFieldsRow : OpenClaim := { program := "ytifnbpkcnkfanaa", sum := "44958e762521c12d1f946845eaad69f1b1872ebc7751c3288cf8d2f6e04b1422", func := "ordinal/ordinallaw05.RatFields", spec := "ratFields", inPlace := ["internal/abi.NoEscape", "internal/bytealg.MakeNoZero"], unfollowed := true, recurses := true, apart := false }
def RatFieldsSaid : Prop := ratFieldsRow.holds Try.pinned (OpenSpec.ofChange ratFieldsSpec)

/-- ITS FALSE NEIGHBOUR: 'it returns false'. Refute it at one input. -/
def ratFieldsWrong : ChangeSpec := { name := "ratFields", fn := fun _ => fun
  | [d1, d2, d3] => { results := [.lit (.bool false)], args := [d1, d2, d3] }
  | _ => none }
def RatFieldsWrongFalsely : Prop := ratFieldsRow.holds Try.pinned (OpenSpec.ofChange ratFieldsWrong)

/-- 'ordinallaw05.RatOrders': WHATEVER THE INPUT: true; the input reads as it did. -/
def ratOrdersSpec : ChangeSpec := { name := "ratOrders", fn := fun _ => fun
  | [d1, d2, d3] => { results := [.lit (.bool true)], args := [d1, d2, d3] }
  | _ => none }
def ratOrdersRow : OpenClaim := { program := "ytifnbpkcnkfanaa", sum := "44958e762521c12d1f946845eaad69f1b1872ebc7751c3288cf8d2f6e04b1422", func := "ordinal/ordinallaw05.RatOrders", spec := "ratOrders", inPlace := ["internal/abi.NoEscape", "internal/bytealg.MakeNoZero"], unfollowed := true, recurses := true, apart := false }
def RatOrdersSaid : Prop := ratOrdersRow.holds Try.pinned (OpenSpec.ofChange ratOrdersSpec)

/-- ITS FALSE NEIGHBOUR: 'it returns false'. Refute it at one input. -/
def ratOrdersWrong : ChangeSpec := { name := "ratOrders", fn := fun _ => fun
  | [d1, d2, d3] => { results := [.lit (.bool false)], args := [d1, d2, d3] }
  | _ => none }
def RatOrdersWrongFalsely : Prop := ratOrdersRow.holds Try.pinned (OpenSpec.ofChange ratOrdersWrong)

/-- 'ordinallaw05.RatBetween': WHATEVER THE INPUT: true; the input reads as it did. -/
def ratBetweenSpec : ChangeSpec := { name := "ratBetween", fn := fun _ => fun
  | [d1, d2] => { results := [.lit (.bool true)], args := [d1, d2] }
  | _ => none }
def ratBetweenRow : OpenClaim := { program := "ytifnbpkcnkfanaa", sum := "44958e762521c12d1f946845eaad69f1b1872ebc7751c3288cf8d2f6e04b1422", func := "ordinal/ordinallaw05.RatBetween", spec := "ratBetween", inPlace := ["internal/abi.NoEscape", "internal/bytealg.MakeNoZero"], unfollowed := true, recurses := true, apart := false }
def RatBetweenSaid : Prop := ratBetweenRow.holds Try.pinned (OpenSpec.ofChange ratBetweenSpec)

/-- ITS FALSE NEIGHBOUR: 'it returns false'. Refute it at one input. -/
def ratBetweenWrong : ChangeSpec := { name := "ratBetween", fn := fun _ => fun
  | [d1, d2] => { results := [.lit (.bool false)], args := [d1, d2] }
  | _ => none }
def RatBetweenWrongFalsely : Prop := ratBetweenRow.holds Try.pinned (OpenSpec.ofChange ratBetweenWrong)

/-- 'ordinallaw05.RatCounts': WHATEVER THE INPUT: true; the input reads as it did. -/
def ratCountsSpec : ChangeSpec := { name := "ratCounts", fn := fun _ => fun
  | [d] => { results := [.lit (.bool true)], args := [d] }
  | _ => none }
def ratCountsRow : OpenClaim := { program := "ytifnbpkcnkfanaa", sum := "44958e762521c12d1f946845eaad69f1b1872ebc7751c3288cf8d2f6e04b1422", func := "ordinal/ordinallaw05.RatCounts", spec := "ratCounts", inPlace := ["internal/abi.NoEscape", "internal/bytealg.MakeNoZero"], unfollowed := true, recurses := true, apart := false }
def RatCountsSaid : Prop := ratCountsRow.holds Try.pinned (OpenSpec.ofChange ratCountsSpec)

/-- ITS FALSE NEIGHBOUR: 'it returns false'. Refute it at one input. -/
def ratCountsWrong : ChangeSpec := { name := "ratCounts", fn := fun _ => fun
  | [d] => { results := [.lit (.bool false)], args := [d] }
  | _ => none }
def RatCountsWrongFalsely : Prop := ratCountsRow.holds Try.pinned (OpenSpec.ofChange ratCountsWrong)

/-- 'ordinallaw05.RatTexts': WHATEVER THE INPUT: true; the input reads as it did. -/
def ratTextsSpec : ChangeSpec := { name := "ratTexts", fn := fun _ => fun
  | [d1, d2] => { results := [.lit (.bool true)], args := [d1, d2] }
  | _ => none }
def ratTextsRow : OpenClaim := { program := "ytifnbpkcnkfanaa", sum := "44958e762521c12d1f946845eaad69f1b1872ebc7751c3288cf8d2f6e04b1422", func := "ordinal/ordinallaw05.RatTexts", spec := "ratTexts", inPlace := ["internal/abi.NoEscape", "internal/bytealg.MakeNoZero", "internal/bytealg.IndexByteString", "internal/bytealg.IndexString"], unfollowed := true, recurses := true, named := ["internal/bytealg.MaxLen"], apart := false }
def RatTextsSaid : Prop := ratTextsRow.holds Try.pinned (OpenSpec.ofChange ratTextsSpec)

/-- ITS FALSE NEIGHBOUR: 'it returns false'. Refute it at one input. -/
def ratTextsWrong : ChangeSpec := { name := "ratTexts", fn := fun _ => fun
  | [d1, d2] => { results := [.lit (.bool false)], args := [d1, d2] }
  | _ => none }
def RatTextsWrongFalsely : Prop := ratTextsRow.holds Try.pinned (OpenSpec.ofChange ratTextsWrong)

/-- 'ordinallaw05.RatBack': WHATEVER THE INPUT: true; the input reads as it did. -/
def ratBackSpec : ChangeSpec := { name := "ratBack", fn := fun _ => fun
  | [d] => { results := [.lit (.bool true)], args := [d] }
  | _ => none }
def ratBackRow : OpenClaim := { program := "ytifnbpkcnkfanaa", sum := "44958e762521c12d1f946845eaad69f1b1872ebc7751c3288cf8d2f6e04b1422", func := "ordinal/ordinallaw05.RatBack", spec := "ratBack", inPlace := ["internal/abi.NoEscape", "internal/bytealg.MakeNoZero", "internal/bytealg.IndexByteString", "internal/bytealg.IndexString"], unfollowed := true, recurses := true, named := ["internal/bytealg.MaxLen"], apart := false }
def RatBackSaid : Prop := ratBackRow.holds Try.pinned (OpenSpec.ofChange ratBackSpec)

/-- ITS FALSE NEIGHBOUR: 'it returns false'. Refute it at one input. -/
def ratBackWrong : ChangeSpec := { name := "ratBack", fn := fun _ => fun
  | [d] => { results := [.lit (.bool false)], args := [d] }
  | _ => none }
def RatBackWrongFalsely : Prop := ratBackRow.holds Try.pinned (OpenSpec.ofChange ratBackWrong)

/- THE SECOND FORM. 'bulk': how many values and letters a reading holds, each counted each time it is reached (what is shared counts as often as it is met; a slice's spare places count too). A statement '..UptoSaid' is the law's where the arguments, and the package variables that the reading takes, are together of bulk at most 1048576: NARROWER than '..Said'. Prove '..Said' where nothing that the law and all that it calls make is longer than what came in: it says more and counts as full. Else prove '..UptoSaid'. A law counts once. -/
mutual
def uptoBulk {H : Type} : DataW H → Nat
  | .lit (.string bytes) => bytes.length + 1
  | .lit _ => 1
  | .nil => 1
  | .ptr d => uptoBulk d + 1
  | .slice elems spare => uptoBulkAll elems + uptoBulkAll spare + 1
  | .agg parts => uptoBulkAll parts + 1
  | .iface _ d => uptoBulk d + 1
  | .map entries => uptoBulkEntries entries + 1
  | .held _ => 1
def uptoBulkAll {H : Type} : List (DataW H) → Nat
  | [] => 0
  | d :: r => uptoBulk d + uptoBulkAll r
def uptoBulkEntries {H : Type} : List (Lit × DataW H) → Nat
  | [] => 0
  | x :: r => uptoBulkEntry x + uptoBulkEntries r
def uptoBulkEntry {H : Type} : Lit × DataW H → Nat
  | (.string bytes, d) => bytes.length + uptoBulk d + 1
  | (_, d) => uptoBulk d + 1
 end
def uptoSmall : (H : Type) → List (DataW H) → Bool := fun _ ds => decide (uptoBulkAll ds ≤ 1048576)
def OpenSpec.upto (s : _root_.Go.ChangeSpec) : _root_.Go.OpenSpec := { _root_.Go.OpenSpec.ofChange s with cond := some uptoSmall }

/-- 'ordinallaw05.RatMakes', WHERE WHAT IT READS IS OF BULK AT MOST 1048576: true; the input reads as it did. -/
def ratMakesUptoRow : OpenClaim := { program := "ytifnbpkcnkfanaa", sum := "44958e762521c12d1f946845eaad69f1b1872ebc7751c3288cf8d2f6e04b1422", func := "ordinal/ordinallaw05.RatMakes", spec := "ratMakes", inPlace := ["internal/abi.NoEscape", "internal/bytealg.MakeNoZero"], unfollowed := true, recurses := true, apart := false, narrowed := true }
def RatMakesUptoSaid : Prop := ratMakesUptoRow.holds Try.pinned (OpenSpec.upto ratMakesSpec)

/-- 'ordinallaw05.RatFields', WHERE WHAT IT READS IS OF BULK AT MOST 1048576: true; the input reads as it did. -/
def ratFieldsUptoRow : OpenClaim := { program := "ytifnbpkcnkfanaa", sum := "44958e762521c12d1f946845eaad69f1b1872ebc7751c3288cf8d2f6e04b1422", func := "ordinal/ordinallaw05.RatFields", spec := "ratFields", inPlace := ["internal/abi.NoEscape", "internal/bytealg.MakeNoZero"], unfollowed := true, recurses := true, apart := false, narrowed := true }
def RatFieldsUptoSaid : Prop := ratFieldsUptoRow.holds Try.pinned (OpenSpec.upto ratFieldsSpec)

/-- 'ordinallaw05.RatOrders', WHERE WHAT IT READS IS OF BULK AT MOST 1048576: true; the input reads as it did. -/
def ratOrdersUptoRow : OpenClaim := { program := "ytifnbpkcnkfanaa", sum := "44958e762521c12d1f946845eaad69f1b1872ebc7751c3288cf8d2f6e04b1422", func := "ordinal/ordinallaw05.RatOrders", spec := "ratOrders", inPlace := ["internal/abi.NoEscape", "internal/bytealg.MakeNoZero"], unfollowed := true, recurses := true, apart := false, narrowed := true }
def RatOrdersUptoSaid : Prop := ratOrdersUptoRow.holds Try.pinned (OpenSpec.upto ratOrdersSpec)

/-- 'ordinallaw05.RatBetween', WHERE WHAT IT READS IS OF BULK AT MOST 1048576: true; the input reads as it did. -/
def ratBetweenUptoRow : OpenClaim := { program := "ytifnbpkcnkfanaa", sum := "44958e762521c12d1f946845eaad69f1b1872ebc7751c3288cf8d2f6e04b1422", func := "ordinal/ordinallaw05.RatBetween", spec := "ratBetween", inPlace := ["internal/abi.NoEscape", "internal/bytealg.MakeNoZero"], unfollowed := true, recurses := true, apart := false, narrowed := true }
def RatBetweenUptoSaid : Prop := ratBetweenUptoRow.holds Try.pinned (OpenSpec.upto ratBetweenSpec)

/-- 'ordinallaw05.RatCounts', WHERE WHAT IT READS IS OF BULK AT MOST 1048576: true; the input reads as it did. -/
def ratCountsUptoRow : OpenClaim := { program := "ytifnbpkcnkfanaa", sum := "44958e762521c12d1f946845eaad69f1b1872ebc7751c3288cf8d2f6e04b1422", func := "ordinal/ordinallaw05.RatCounts", spec := "ratCounts", inPlace := ["internal/abi.NoEscape", "internal/bytealg.MakeNoZero"], unfollowed := true, recurses := true, apart := false, narrowed := true }
def RatCountsUptoSaid : Prop := ratCountsUptoRow.holds Try.pinned (OpenSpec.upto ratCountsSpec)

/-- 'ordinallaw05.RatTexts', WHERE WHAT IT READS IS OF BULK AT MOST 1048576: true; the input reads as it did. -/
def ratTextsUptoRow : OpenClaim := { program := "ytifnbpkcnkfanaa", sum := "44958e762521c12d1f946845eaad69f1b1872ebc7751c3288cf8d2f6e04b1422", func := "ordinal/ordinallaw05.RatTexts", spec := "ratTexts", inPlace := ["internal/abi.NoEscape", "internal/bytealg.MakeNoZero", "internal/bytealg.IndexByteString", "internal/bytealg.IndexString"], unfollowed := true, recurses := true, named := ["internal/bytealg.MaxLen"], apart := false, narrowed := true }
def RatTextsUptoSaid : Prop := ratTextsUptoRow.holds Try.pinned (OpenSpec.upto ratTextsSpec)

/-- 'ordinallaw05.RatBack', WHERE WHAT IT READS IS OF BULK AT MOST 1048576: true; the input reads as it did. -/
def ratBackUptoRow : OpenClaim := { program := "ytifnbpkcnkfanaa", sum := "44958e762521c12d1f946845eaad69f1b1872ebc7751c3288cf8d2f6e04b1422", func := "ordinal/ordinallaw05.RatBack", spec := "ratBack", inPlace := ["internal/abi.NoEscape", "internal/bytealg.MakeNoZero", "internal/bytealg.IndexByteString", "internal/bytealg.IndexString"], unfollowed := true, recurses := true, named := ["internal/bytealg.MaxLen"], apart := false, narrowed := true }
def RatBackUptoSaid : Prop := ratBackUptoRow.holds Try.pinned (OpenSpec.upto ratBackSpec)

end Rows
end Go.Proofs.Ytifnbpkcnkfanaa
