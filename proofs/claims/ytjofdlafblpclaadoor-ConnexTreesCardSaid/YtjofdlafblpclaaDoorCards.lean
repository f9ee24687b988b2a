/-
  DERIVED. GIVEN WITH THE SEED: THE CARDS: each row of YtjofdlafblpclaaDoorRows.lean that lists a variable, with what it lists TIED to the program's text (the seventh form; the later family's looks); each row that meets fmt, with fmt's text TOLD by the authors' own Lean function (tested against real Go, not proved from fmt's source: count such statements apart). THE CARD IS WHAT COUNTS. Prove the row's statement (the work); the ties are given (YtjofdlafblpclaaDoorTie.lean); close each card by the builder's one call (the guide's Derived/Test/ToyasCard.lean, 'card_holds'). Laid BY PROGRAM, IN A SANDBOX (cutbox-door.mjs). By AI agents, Wed Nov 11 2026. No macro, syntax, notation, axiom, sorry.
-/
import Derived.Test.YtjofdlafblpclaaDoorRows
import GoSem.ClaimSeven
namespace Go.Proofs.YtjofdlafblpclaaDoor
namespace Rows

/-- THE TIED CARD OF 'ordinallaw31.ConnexDecides'. -/
def connexDecidesCard : Claim7 := { stood := { row := connexDecidesRow, standIns := [], harness := (true, "53b1b60ba56d5d4a02de7f29a864fd213e507b9f918fd41beace9d09675d53df"), looks := false }, kinds := [], alts := [], laidByText := true, laidKinds := [.data], laidTests := true, laidLooks := .later }
def ConnexDecidesCardSaid : Prop := Claim7.holds Tryd.pinned (.plain (OpenSpec.ofChange connexDecidesSpec)) connexDecidesCard

/-- THE TIED CARD OF 'ordinallaw31.ConnexPaths'. -/
def connexPathsCard : Claim7 := { stood := { row := connexPathsRow, standIns := [], harness := (true, "53b1b60ba56d5d4a02de7f29a864fd213e507b9f918fd41beace9d09675d53df"), looks := false }, kinds := [], alts := [], laidByText := true, laidKinds := [.data], laidTests := true, laidLooks := .later }
def ConnexPathsCardSaid : Prop := Claim7.holds Tryd.pinned (.plain (OpenSpec.ofChange connexPathsSpec)) connexPathsCard

/-- THE TIED CARD OF 'ordinallaw31.ConnexChecks'. -/
def connexChecksCard : Claim7 := { stood := { row := connexChecksRow, standIns := [], harness := (true, "53b1b60ba56d5d4a02de7f29a864fd213e507b9f918fd41beace9d09675d53df"), looks := false }, kinds := [], alts := [], laidByText := true, laidKinds := [.data], laidTests := true, laidLooks := .later }
def ConnexChecksCardSaid : Prop := Claim7.holds Tryd.pinned (.plain (OpenSpec.ofChange connexChecksSpec)) connexChecksCard

/-- THE TIED CARD OF 'ordinallaw31.ConnexExtends'. -/
def connexExtendsCard : Claim7 := { stood := { row := connexExtendsRow, standIns := [], harness := (true, "53b1b60ba56d5d4a02de7f29a864fd213e507b9f918fd41beace9d09675d53df"), looks := false }, kinds := [], alts := [], laidByText := true, laidKinds := [.data], laidTests := true, laidLooks := .later }
def ConnexExtendsCardSaid : Prop := Claim7.holds Tryd.pinned (.plain (OpenSpec.ofChange connexExtendsSpec)) connexExtendsCard

/-- THE TIED CARD OF 'ordinallaw31.ConnexEasy'. -/
def connexEasyCard : Claim7 := { stood := { row := connexEasyRow, standIns := [], harness := (true, "53b1b60ba56d5d4a02de7f29a864fd213e507b9f918fd41beace9d09675d53df"), looks := false }, kinds := [], alts := [], laidByText := true, laidKinds := [.data], laidTests := true, laidLooks := .later }
def ConnexEasyCardSaid : Prop := Claim7.holds Tryd.pinned (.plain (OpenSpec.ofChange connexEasySpec)) connexEasyCard

/-- THE TIED CARD OF 'ordinallaw31.ConnexDichotomy'. -/
def connexDichotomyCard : Claim7 := { stood := { row := connexDichotomyRow, standIns := [], harness := (true, "53b1b60ba56d5d4a02de7f29a864fd213e507b9f918fd41beace9d09675d53df"), looks := false }, kinds := [], alts := [], laidByText := true, laidKinds := [.data], laidTests := true, laidLooks := .later }
def ConnexDichotomyCardSaid : Prop := Claim7.holds Tryd.pinned (.plain (OpenSpec.ofChange connexDichotomySpec)) connexDichotomyCard

/-- THE TIED CARD OF 'ordinallaw31.ConnexTrees'. -/
def connexTreesCard : Claim7 := { stood := { row := connexTreesRow, standIns := [], harness := (true, "53b1b60ba56d5d4a02de7f29a864fd213e507b9f918fd41beace9d09675d53df"), looks := false }, kinds := [], alts := [], laidByText := true, laidKinds := [.data], laidTests := true, laidLooks := .later }
def ConnexTreesCardSaid : Prop := Claim7.holds Tryd.pinned (.plain (OpenSpec.ofChange connexTreesSpec)) connexTreesCard

/-- THE SECOND FORM's CARD OF 'ordinallaw31.ConnexDecides'. -/
def connexDecidesUptoCard : Claim7 := { stood := { row := connexDecidesUptoRow, standIns := [], harness := (true, "53b1b60ba56d5d4a02de7f29a864fd213e507b9f918fd41beace9d09675d53df"), looks := false }, kinds := [], alts := [], laidByText := true, laidKinds := [.data], laidTests := true, laidLooks := .later }
def ConnexDecidesUptoCardSaid : Prop := Claim7.holds Tryd.pinned (.plain (OpenSpec.upto connexDecidesSpec)) connexDecidesUptoCard

/-- THE SECOND FORM's CARD OF 'ordinallaw31.ConnexPaths'. -/
def connexPathsUptoCard : Claim7 := { stood := { row := connexPathsUptoRow, standIns := [], harness := (true, "53b1b60ba56d5d4a02de7f29a864fd213e507b9f918fd41beace9d09675d53df"), looks := false }, kinds := [], alts := [], laidByText := true, laidKinds := [.data], laidTests := true, laidLooks := .later }
def ConnexPathsUptoCardSaid : Prop := Claim7.holds Tryd.pinned (.plain (OpenSpec.upto connexPathsSpec)) connexPathsUptoCard

/-- THE SECOND FORM's CARD OF 'ordinallaw31.ConnexChecks'. -/
def connexChecksUptoCard : Claim7 := { stood := { row := connexChecksUptoRow, standIns := [], harness := (true, "53b1b60ba56d5d4a02de7f29a864fd213e507b9f918fd41beace9d09675d53df"), looks := false }, kinds := [], alts := [], laidByText := true, laidKinds := [.data], laidTests := true, laidLooks := .later }
def ConnexChecksUptoCardSaid : Prop := Claim7.holds Tryd.pinned (.plain (OpenSpec.upto connexChecksSpec)) connexChecksUptoCard

/-- THE SECOND FORM's CARD OF 'ordinallaw31.ConnexExtends'. -/
def connexExtendsUptoCard : Claim7 := { stood := { row := connexExtendsUptoRow, standIns := [], harness := (true, "53b1b60ba56d5d4a02de7f29a864fd213e507b9f918fd41beace9d09675d53df"), looks := false }, kinds := [], alts := [], laidByText := true, laidKinds := [.data], laidTests := true, laidLooks := .later }
def ConnexExtendsUptoCardSaid : Prop := Claim7.holds Tryd.pinned (.plain (OpenSpec.upto connexExtendsSpec)) connexExtendsUptoCard

/-- THE SECOND FORM's CARD OF 'ordinallaw31.ConnexEasy'. -/
def connexEasyUptoCard : Claim7 := { stood := { row := connexEasyUptoRow, standIns := [], harness := (true, "53b1b60ba56d5d4a02de7f29a864fd213e507b9f918fd41beace9d09675d53df"), looks := false }, kinds := [], alts := [], laidByText := true, laidKinds := [.data], laidTests := true, laidLooks := .later }
def ConnexEasyUptoCardSaid : Prop := Claim7.holds Tryd.pinned (.plain (OpenSpec.upto connexEasySpec)) connexEasyUptoCard

/-- THE SECOND FORM's CARD OF 'ordinallaw31.ConnexDichotomy'. -/
def connexDichotomyUptoCard : Claim7 := { stood := { row := connexDichotomyUptoRow, standIns := [], harness := (true, "53b1b60ba56d5d4a02de7f29a864fd213e507b9f918fd41beace9d09675d53df"), looks := false }, kinds := [], alts := [], laidByText := true, laidKinds := [.data], laidTests := true, laidLooks := .later }
def ConnexDichotomyUptoCardSaid : Prop := Claim7.holds Tryd.pinned (.plain (OpenSpec.upto connexDichotomySpec)) connexDichotomyUptoCard

/-- THE SECOND FORM's CARD OF 'ordinallaw31.ConnexTrees'. -/
def connexTreesUptoCard : Claim7 := { stood := { row := connexTreesUptoRow, standIns := [], harness := (true, "53b1b60ba56d5d4a02de7f29a864fd213e507b9f918fd41beace9d09675d53df"), looks := false }, kinds := [], alts := [], laidByText := true, laidKinds := [.data], laidTests := true, laidLooks := .later }
def ConnexTreesUptoCardSaid : Prop := Claim7.holds Tryd.pinned (.plain (OpenSpec.upto connexTreesSpec)) connexTreesUptoCard
end Rows
end Go.Proofs.YtjofdlafblpclaaDoor
