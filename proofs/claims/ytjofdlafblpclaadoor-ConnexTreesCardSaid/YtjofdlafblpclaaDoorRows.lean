/-
  NARROWER THAN 'FOR EVERY INPUT', by the rows' own cells (each row's printed sentence says how): ConnexDecides: laid · ConnexPaths: laid · ConnexChecks: laid · ConnexExtends: laid · ConnexEasy: laid · ConnexDichotomy: laid · ConnexTrees: laid.
  DERIVED. THE GIVEN ROWS OF THIS SEAT. 7 by the template 'for every input the law returns true; each argument reads behind the call as it read before'; 0 by the template 'total and deterministic' (their statements: YtjofdlafblpclaaDoorTotals.lean).
  GIVEN WITH THE SEED: the statements are not yours to turn. If you find one false, say at which input.
  Laid BY PROGRAM, IN A SANDBOX (cutbox-rows.mjs): the forced cells as the released guide's own fill.sh prints them over the translation cc2f53f794809e98… (all of the seat's roots in one cut). By AI agents, Wed Nov 11 2026. No macro, syntax, notation, axiom, sorry.
-/
import Derived.Test.YtjofdlafblpclaaDoorChecked
import GoSem.Claim
import GoSem.ClaimJoined
import GoSem.ClaimMapViews
import Derived.JoinedTies
import Derived.KernelRfl
namespace Go.Proofs.YtjofdlafblpclaaDoor
/- THE CELL 'sum', in the pinned program and in every row, IS THE sha256 OF THE DUMP (.gsa) THAT YtjofdlafblpclaaDoorProg.lean LOADS. Nothing in Lean hashes anything: it is a label: what it is worth is what the hold of that sum in a sandbox is worth. -/
noncomputable def Tryd.pinned : Pinned := { name := "ytjofdlafblpclaadoor", sum := "cc2f53f794809e981204f4cc2f9fb44eafe854f2a4a603978bf84dbd09bb08ef", checked := Tryd.checked }
namespace Rows
def none {H : Type} : Left H := { results := [], args := [] }

/- WHAT THE LISTED PACKAGE-LEVEL VARIABLES READ AS WHEN THE CALL BEGINS. Each datum BY PROGRAM (the guide's laid-datum.mjs) off the statement by which the dump's own 'gosem.cut.vars' lays the variable. In a bare row this is a premise. The card (YtjofdlafblpclaaDoorCards.lean) ties it to the program's text. -/
def laid_math_bits_deBruijn32tab {H : Type} : DataW H := .agg [.lit (.int .u8 0), .lit (.int .u8 1), .lit (.int .u8 28), .lit (.int .u8 2), .lit (.int .u8 29), .lit (.int .u8 14), .lit (.int .u8 24), .lit (.int .u8 3), .lit (.int .u8 30), .lit (.int .u8 22), .lit (.int .u8 20), .lit (.int .u8 15), .lit (.int .u8 25), .lit (.int .u8 17), .lit (.int .u8 4), .lit (.int .u8 8), .lit (.int .u8 31), .lit (.int .u8 27), .lit (.int .u8 13), .lit (.int .u8 23), .lit (.int .u8 21), .lit (.int .u8 19), .lit (.int .u8 16), .lit (.int .u8 7), .lit (.int .u8 26), .lit (.int .u8 12), .lit (.int .u8 18), .lit (.int .u8 6), .lit (.int .u8 11), .lit (.int .u8 5), .lit (.int .u8 10), .lit (.int .u8 9)]

/-- 'ordinallaw31.ConnexDecides': WHATEVER THE INPUT: true; the input reads as it did. -/
def connexDecidesSpec : ChangeSpec := { name := "connexDecides", fn := fun _ => fun
  | [d1, d2] => { results := [.lit (.bool true)], args := [d1, d2] }
  | _ => none }
def connexDecidesRow : OpenClaim := { program := "ytjofdlafblpclaadoor", sum := "cc2f53f794809e981204f4cc2f9fb44eafe854f2a4a603978bf84dbd09bb08ef", func := "ordinal/ordinallaw31.ConnexDecides", spec := "connexDecides", unfollowed := true, recurses := true, named := ["math/bits.deBruijn32tab"], apart := false, laid := [("math/bits.deBruijn32tab", laid_math_bits_deBruijn32tab)] }
def ConnexDecidesSaid : Prop := connexDecidesRow.holds Tryd.pinned (OpenSpec.ofChange connexDecidesSpec)

/-- ITS FALSE NEIGHBOUR: 'it returns false'. Refute it at one input. -/
def connexDecidesWrong : ChangeSpec := { name := "connexDecides", fn := fun _ => fun
  | [d1, d2] => { results := [.lit (.bool false)], args := [d1, d2] }
  | _ => none }
def ConnexDecidesWrongFalsely : Prop := connexDecidesRow.holds Tryd.pinned (OpenSpec.ofChange connexDecidesWrong)

/-- 'ordinallaw31.ConnexPaths': WHATEVER THE INPUT: true; the input reads as it did. -/
def connexPathsSpec : ChangeSpec := { name := "connexPaths", fn := fun _ => fun
  | [d1, d2] => { results := [.lit (.bool true)], args := [d1, d2] }
  | _ => none }
def connexPathsRow : OpenClaim := { program := "ytjofdlafblpclaadoor", sum := "cc2f53f794809e981204f4cc2f9fb44eafe854f2a4a603978bf84dbd09bb08ef", func := "ordinal/ordinallaw31.ConnexPaths", spec := "connexPaths", unfollowed := true, recurses := true, named := ["math/bits.deBruijn32tab"], apart := false, laid := [("math/bits.deBruijn32tab", laid_math_bits_deBruijn32tab)] }
def ConnexPathsSaid : Prop := connexPathsRow.holds Tryd.pinned (OpenSpec.ofChange connexPathsSpec)

/-- ITS FALSE NEIGHBOUR: 'it returns false'. Refute it at one input. -/
def connexPathsWrong : ChangeSpec := { name := "connexPaths", fn := fun _ => fun
  | [d1, d2] => { results := [.lit (.bool false)], args := [d1, d2] }
  | _ => none }
def ConnexPathsWrongFalsely : Prop := connexPathsRow.holds Tryd.pinned (OpenSpec.ofChange connexPathsWrong)

/-- 'ordinallaw31.ConnexChecks': WHATEVER THE INPUT: true; the input reads as it did. -/
def connexChecksSpec : ChangeSpec := { name := "connexChecks", fn := fun _ => fun
  | [d1, d2, d3] => { results := [.lit (.bool true)], args := [d1, d2, d3] }
  | _ => none }
def connexChecksRow : OpenClaim := { program := "ytjofdlafblpclaadoor", sum := "cc2f53f794809e981204f4cc2f9fb44eafe854f2a4a603978bf84dbd09bb08ef", func := "ordinal/ordinallaw31.ConnexChecks", spec := "connexChecks", unfollowed := true, recurses := true, named := ["math/bits.deBruijn32tab"], apart := false, laid := [("math/bits.deBruijn32tab", laid_math_bits_deBruijn32tab)] }
def ConnexChecksSaid : Prop := connexChecksRow.holds Tryd.pinned (OpenSpec.ofChange connexChecksSpec)

/-- ITS FALSE NEIGHBOUR: 'it returns false'. Refute it at one input. -/
def connexChecksWrong : ChangeSpec := { name := "connexChecks", fn := fun _ => fun
  | [d1, d2, d3] => { results := [.lit (.bool false)], args := [d1, d2, d3] }
  | _ => none }
def ConnexChecksWrongFalsely : Prop := connexChecksRow.holds Tryd.pinned (OpenSpec.ofChange connexChecksWrong)

/-- 'ordinallaw31.ConnexExtends': WHATEVER THE INPUT: true; the input reads as it did. -/
def connexExtendsSpec : ChangeSpec := { name := "connexExtends", fn := fun _ => fun
  | [d1, d2] => { results := [.lit (.bool true)], args := [d1, d2] }
  | _ => none }
def connexExtendsRow : OpenClaim := { program := "ytjofdlafblpclaadoor", sum := "cc2f53f794809e981204f4cc2f9fb44eafe854f2a4a603978bf84dbd09bb08ef", func := "ordinal/ordinallaw31.ConnexExtends", spec := "connexExtends", unfollowed := true, recurses := true, named := ["math/bits.deBruijn32tab"], apart := false, laid := [("math/bits.deBruijn32tab", laid_math_bits_deBruijn32tab)] }
def ConnexExtendsSaid : Prop := connexExtendsRow.holds Tryd.pinned (OpenSpec.ofChange connexExtendsSpec)

/-- ITS FALSE NEIGHBOUR: 'it returns false'. Refute it at one input. -/
def connexExtendsWrong : ChangeSpec := { name := "connexExtends", fn := fun _ => fun
  | [d1, d2] => { results := [.lit (.bool false)], args := [d1, d2] }
  | _ => none }
def ConnexExtendsWrongFalsely : Prop := connexExtendsRow.holds Tryd.pinned (OpenSpec.ofChange connexExtendsWrong)

/-- 'ordinallaw31.ConnexEasy': WHATEVER THE INPUT: true; the input reads as it did. -/
def connexEasySpec : ChangeSpec := { name := "connexEasy", fn := fun _ => fun
  | [d1, d2] => { results := [.lit (.bool true)], args := [d1, d2] }
  | _ => none }
def connexEasyRow : OpenClaim := { program := "ytjofdlafblpclaadoor", sum := "cc2f53f794809e981204f4cc2f9fb44eafe854f2a4a603978bf84dbd09bb08ef", func := "ordinal/ordinallaw31.ConnexEasy", spec := "connexEasy", unfollowed := true, recurses := true, named := ["math/bits.deBruijn32tab"], apart := false, laid := [("math/bits.deBruijn32tab", laid_math_bits_deBruijn32tab)] }
def ConnexEasySaid : Prop := connexEasyRow.holds Tryd.pinned (OpenSpec.ofChange connexEasySpec)

/-- ITS FALSE NEIGHBOUR: 'it returns false'. Refute it at one input. -/
def connexEasyWrong : ChangeSpec := { name := "connexEasy", fn := fun _ => fun
  | [d1, d2] => { results := [.lit (.bool false)], args := [d1, d2] }
  | _ => none }
def ConnexEasyWrongFalsely : Prop := connexEasyRow.holds Tryd.pinned (OpenSpec.ofChange connexEasyWrong)

/-- 'ordinallaw31.ConnexDichotomy': WHATEVER THE INPUT: true; the input reads as it did. -/
def connexDichotomySpec : ChangeSpec := { name := "connexDichotomy", fn := fun _ => fun
  | [d1, d2] => { results := [.lit (.bool true)], args := [d1, d2] }
  | _ => none }
def connexDichotomyRow : OpenClaim := { program := "ytjofdlafblpclaadoor", sum := "cc2f53f794809e981204f4cc2f9fb44eafe854f2a4a603978bf84dbd09bb08ef", func := "ordinal/ordinallaw31.ConnexDichotomy", spec := "connexDichotomy", unfollowed := true, recurses := true, named := ["math/bits.deBruijn32tab"], apart := false, laid := [("math/bits.deBruijn32tab", laid_math_bits_deBruijn32tab)] }
def ConnexDichotomySaid : Prop := connexDichotomyRow.holds Tryd.pinned (OpenSpec.ofChange connexDichotomySpec)

/-- ITS FALSE NEIGHBOUR: 'it returns false'. Refute it at one input. -/
def connexDichotomyWrong : ChangeSpec := { name := "connexDichotomy", fn := fun _ => fun
  | [d1, d2] => { results := [.lit (.bool false)], args := [d1, d2] }
  | _ => none }
def ConnexDichotomyWrongFalsely : Prop := connexDichotomyRow.holds Tryd.pinned (OpenSpec.ofChange connexDichotomyWrong)

/-- 'ordinallaw31.ConnexTrees': WHATEVER THE INPUT: true; the input reads as it did. -/
def connexTreesSpec : ChangeSpec := { name := "connexTrees", fn := fun _ => fun
  | [d1, d2] => { results := [.lit (.bool true)], args := [d1, d2] }
  | _ => none }
def connexTreesRow : OpenClaim := { program := "ytjofdlafblpclaadoor", sum := "cc2f53f794809e981204f4cc2f9fb44eafe854f2a4a603978bf84dbd09bb08ef", func := "ordinal/ordinallaw31.ConnexTrees", spec := "connexTrees", unfollowed := true, recurses := true, named := ["math/bits.deBruijn32tab"], apart := false, laid := [("math/bits.deBruijn32tab", laid_math_bits_deBruijn32tab)] }
def ConnexTreesSaid : Prop := connexTreesRow.holds Tryd.pinned (OpenSpec.ofChange connexTreesSpec)

/-- ITS FALSE NEIGHBOUR: 'it returns false'. Refute it at one input. -/
def connexTreesWrong : ChangeSpec := { name := "connexTrees", fn := fun _ => fun
  | [d1, d2] => { results := [.lit (.bool false)], args := [d1, d2] }
  | _ => none }
def ConnexTreesWrongFalsely : Prop := connexTreesRow.holds Tryd.pinned (OpenSpec.ofChange connexTreesWrong)

/- THE SECOND FORM. 'bulk': how many values and letters a reading holds, each counted each time it is reached (what is shared counts as often as it is met; a slice's spare places count too). A statement '..UptoSaid' is the law's where the arguments, and the package variables that the reading takes, are together of bulk at most 1048576: NARROWER than '..Said'. Prove '..Said' where nothing that the law and all that it calls make is longer than what came in: it says more and counts as full. Else prove '..UptoSaid'. A law counts once. -/
mutual
def uptoBulk {H : Type} : DataW H → Nat
  | .lit (.string bytes) => bytes.length + 1
  | .lit _ => 1
  | .nil => 1
  | .ptr d => uptoBulk d + 1
  | .slice elems spare => uptoBulkAll elems + uptoBulkAll spare + 1
  | .agg parts => uptoBulkAll parts + 1
  | .iface _ d => uptoBulk d + 1
  | .map entries => uptoBulkEntries entries + 1
  | .held _ => 1
def uptoBulkAll {H : Type} : List (DataW H) → Nat
  | [] => 0
  | d :: r => uptoBulk d + uptoBulkAll r
def uptoBulkEntries {H : Type} : List (Lit × DataW H) → Nat
  | [] => 0
  | x :: r => uptoBulkEntry x + uptoBulkEntries r
def uptoBulkEntry {H : Type} : Lit × DataW H → Nat
  | (.string bytes, d) => bytes.length + uptoBulk d + 1
  | (_, d) => uptoBulk d + 1
 end
def uptoSmall : (H : Type) → List (DataW H) → Bool := fun _ ds => decide (uptoBulkAll ds ≤ 1048576)
def OpenSpec.upto (s : _root_.Go.ChangeSpec) : _root_.Go.OpenSpec := { _root_.Go.OpenSpec.ofChange s with cond := some uptoSmall }

/-- 'ordinallaw31.ConnexDecides', WHERE WHAT IT READS IS OF BULK AT MOST 1048576: true; the input reads as it did. -/
def connexDecidesUptoRow : OpenClaim := { program := "ytjofdlafblpclaadoor", sum := "cc2f53f794809e981204f4cc2f9fb44eafe854f2a4a603978bf84dbd09bb08ef", func := "ordinal/ordinallaw31.ConnexDecides", spec := "connexDecides", unfollowed := true, recurses := true, named := ["math/bits.deBruijn32tab"], apart := false, laid := [("math/bits.deBruijn32tab", laid_math_bits_deBruijn32tab)], narrowed := true }
def ConnexDecidesUptoSaid : Prop := connexDecidesUptoRow.holds Tryd.pinned (OpenSpec.upto connexDecidesSpec)

/-- 'ordinallaw31.ConnexPaths', WHERE WHAT IT READS IS OF BULK AT MOST 1048576: true; the input reads as it did. -/
def connexPathsUptoRow : OpenClaim := { program := "ytjofdlafblpclaadoor", sum := "cc2f53f794809e981204f4cc2f9fb44eafe854f2a4a603978bf84dbd09bb08ef", func := "ordinal/ordinallaw31.ConnexPaths", spec := "connexPaths", unfollowed := true, recurses := true, named := ["math/bits.deBruijn32tab"], apart := false, laid := [("math/bits.deBruijn32tab", laid_math_bits_deBruijn32tab)], narrowed := true }
def ConnexPathsUptoSaid : Prop := connexPathsUptoRow.holds Tryd.pinned (OpenSpec.upto connexPathsSpec)

/-- 'ordinallaw31.ConnexChecks', WHERE WHAT IT READS IS OF BULK AT MOST 1048576: true; the input reads as it did. -/
def connexChecksUptoRow : OpenClaim := { program := "ytjofdlafblpclaadoor", sum := "cc2f53f794809e981204f4cc2f9fb44eafe854f2a4a603978bf84dbd09bb08ef", func := "ordinal/ordinallaw31.ConnexChecks", spec := "connexChecks", unfollowed := true, recurses := true, named := ["math/bits.deBruijn32tab"], apart := false, laid := [("math/bits.deBruijn32tab", laid_math_bits_deBruijn32tab)], narrowed := true }
def ConnexChecksUptoSaid : Prop := connexChecksUptoRow.holds Tryd.pinned (OpenSpec.upto connexChecksSpec)

/-- 'ordinallaw31.ConnexExtends', WHERE WHAT IT READS IS OF BULK AT MOST 1048576: true; the input reads as it did. -/
def connexExtendsUptoRow : OpenClaim := { program := "ytjofdlafblpclaadoor", sum := "cc2f53f794809e981204f4cc2f9fb44eafe854f2a4a603978bf84dbd09bb08ef", func := "ordinal/ordinallaw31.ConnexExtends", spec := "connexExtends", unfollowed := true, recurses := true, named := ["math/bits.deBruijn32tab"], apart := false, laid := [("math/bits.deBruijn32tab", laid_math_bits_deBruijn32tab)], narrowed := true }
def ConnexExtendsUptoSaid : Prop := connexExtendsUptoRow.holds Tryd.pinned (OpenSpec.upto connexExtendsSpec)

/-- 'ordinallaw31.ConnexEasy', WHERE WHAT IT READS IS OF BULK AT MOST 1048576: true; the input reads as it did. -/
def connexEasyUptoRow : OpenClaim := { program := "ytjofdlafblpclaadoor", sum := "cc2f53f794809e981204f4cc2f9fb44eafe854f2a4a603978bf84dbd09bb08ef", func := "ordinal/ordinallaw31.ConnexEasy", spec := "connexEasy", unfollowed := true, recurses := true, named := ["math/bits.deBruijn32tab"], apart := false, laid := [("math/bits.deBruijn32tab", laid_math_bits_deBruijn32tab)], narrowed := true }
def ConnexEasyUptoSaid : Prop := connexEasyUptoRow.holds Tryd.pinned (OpenSpec.upto connexEasySpec)

/-- 'ordinallaw31.ConnexDichotomy', WHERE WHAT IT READS IS OF BULK AT MOST 1048576: true; the input reads as it did. -/
def connexDichotomyUptoRow : OpenClaim := { program := "ytjofdlafblpclaadoor", sum := "cc2f53f794809e981204f4cc2f9fb44eafe854f2a4a603978bf84dbd09bb08ef", func := "ordinal/ordinallaw31.ConnexDichotomy", spec := "connexDichotomy", unfollowed := true, recurses := true, named := ["math/bits.deBruijn32tab"], apart := false, laid := [("math/bits.deBruijn32tab", laid_math_bits_deBruijn32tab)], narrowed := true }
def ConnexDichotomyUptoSaid : Prop := connexDichotomyUptoRow.holds Tryd.pinned (OpenSpec.upto connexDichotomySpec)

/-- 'ordinallaw31.ConnexTrees', WHERE WHAT IT READS IS OF BULK AT MOST 1048576: true; the input reads as it did. -/
def connexTreesUptoRow : OpenClaim := { program := "ytjofdlafblpclaadoor", sum := "cc2f53f794809e981204f4cc2f9fb44eafe854f2a4a603978bf84dbd09bb08ef", func := "ordinal/ordinallaw31.ConnexTrees", spec := "connexTrees", unfollowed := true, recurses := true, named := ["math/bits.deBruijn32tab"], apart := false, laid := [("math/bits.deBruijn32tab", laid_math_bits_deBruijn32tab)], narrowed := true }
def ConnexTreesUptoSaid : Prop := connexTreesUptoRow.holds Tryd.pinned (OpenSpec.upto connexTreesSpec)

end Rows
end Go.Proofs.YtjofdlafblpclaaDoor
