/-
  DERIVED. GIVEN WITH THE SEED: THE CARDS: each row of YtkmmehhddagijaaDoorRows.lean that lists a variable, with what it lists TIED to the program's text (the seventh form; the later family's looks); each row that meets fmt, with fmt's text TOLD by the authors' own Lean function (tested against real Go, not proved from fmt's source: count such statements apart). THE CARD IS WHAT COUNTS. Prove the row's statement (the work); the ties are given (YtkmmehhddagijaaDoorTie.lean); close each card by the builder's one call (the guide's Derived/Test/ToyasCard.lean, 'card_holds'). Laid BY PROGRAM, IN A SANDBOX (cutbox-door.mjs). By AI agents, Wed Nov 11 2026. No macro, syntax, notation, axiom, sorry.
-/
import Derived.Test.YtkmmehhddagijaaDoorRows
import GoSem.ClaimSeven
namespace Go.Proofs.YtkmmehhddagijaaDoor
namespace Rows

/-- THE TIED CARD OF 'polderlaw13.NodeTexts'. -/
def nodeTextsCard : Claim7 := { stood := { row := nodeTextsRow, standIns := [], harness := (true, "9f783d0d4057d61810b3f37cff270c45bd9ac4fda053f32dca001ed235a9fc06"), looks := true }, kinds := [], alts := [], laidByText := true, laidKinds := [.data, .pinned], laidTests := true, laidLooks := .later }
def NodeTextsCardSaid : Prop := Claim7.holds Tryd.pinned (.plain (OpenSpec.ofChange nodeTextsSpec)) nodeTextsCard

/-- THE TIED CARD OF 'polderlaw13.NodeItems'. -/
def nodeItemsCard : Claim7 := { stood := { row := nodeItemsRow, standIns := [], harness := (true, "9f783d0d4057d61810b3f37cff270c45bd9ac4fda053f32dca001ed235a9fc06"), looks := true }, kinds := [], alts := [], laidByText := true, laidKinds := [.data, .pinned], laidTests := true, laidLooks := .later }
def NodeItemsCardSaid : Prop := Claim7.holds Tryd.pinned (.plain (OpenSpec.ofChange nodeItemsSpec)) nodeItemsCard

/-- THE TIED CARD OF 'polderlaw13.NodeNodes'. -/
def nodeNodesCard : Claim7 := { stood := { row := nodeNodesRow, standIns := [], harness := (true, "9f783d0d4057d61810b3f37cff270c45bd9ac4fda053f32dca001ed235a9fc06"), looks := true }, kinds := [], alts := [], laidByText := true, laidKinds := [.data, .pinned], laidTests := true, laidLooks := .later }
def NodeNodesCardSaid : Prop := Claim7.holds Tryd.pinned (.plain (OpenSpec.ofChange nodeNodesSpec)) nodeNodesCard

/-- THE SECOND FORM's CARD OF 'polderlaw13.NodeTexts'. -/
def nodeTextsUptoCard : Claim7 := { stood := { row := nodeTextsUptoRow, standIns := [], harness := (true, "9f783d0d4057d61810b3f37cff270c45bd9ac4fda053f32dca001ed235a9fc06"), looks := true }, kinds := [], alts := [], laidByText := true, laidKinds := [.data, .pinned], laidTests := true, laidLooks := .later }
def NodeTextsUptoCardSaid : Prop := Claim7.holds Tryd.pinned (.plain (OpenSpec.upto nodeTextsSpec)) nodeTextsUptoCard

/-- THE SECOND FORM's CARD OF 'polderlaw13.NodeItems'. -/
def nodeItemsUptoCard : Claim7 := { stood := { row := nodeItemsUptoRow, standIns := [], harness := (true, "9f783d0d4057d61810b3f37cff270c45bd9ac4fda053f32dca001ed235a9fc06"), looks := true }, kinds := [], alts := [], laidByText := true, laidKinds := [.data, .pinned], laidTests := true, laidLooks := .later }
def NodeItemsUptoCardSaid : Prop := Claim7.holds Tryd.pinned (.plain (OpenSpec.upto nodeItemsSpec)) nodeItemsUptoCard

/-- THE SECOND FORM's CARD OF 'polderlaw13.NodeNodes'. -/
def nodeNodesUptoCard : Claim7 := { stood := { row := nodeNodesUptoRow, standIns := [], harness := (true, "9f783d0d4057d61810b3f37cff270c45bd9ac4fda053f32dca001ed235a9fc06"), looks := true }, kinds := [], alts := [], laidByText := true, laidKinds := [.data, .pinned], laidTests := true, laidLooks := .later }
def NodeNodesUptoCardSaid : Prop := Claim7.holds Tryd.pinned (.plain (OpenSpec.upto nodeNodesSpec)) nodeNodesUptoCard
end Rows
end Go.Proofs.YtkmmehhddagijaaDoor
