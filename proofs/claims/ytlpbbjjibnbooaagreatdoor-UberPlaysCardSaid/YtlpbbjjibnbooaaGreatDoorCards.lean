/-
  DERIVED. GIVEN WITH THE SEED: THE CARDS: each row of YtlpbbjjibnbooaaGreatDoorRows.lean that lists a variable, with what it lists TIED to the program's text (the seventh form; the later family's looks); each row that meets fmt, with fmt's text TOLD by the authors' own Lean function (tested against real Go, not proved from fmt's source: count such statements apart). THE CARD IS WHAT COUNTS. Prove the row's statement (the work); the ties are given (YtlpbbjjibnbooaaGreatDoorTie.lean); close each card by the builder's one call (the guide's Derived/Test/ToyasCard.lean, 'card_holds'). Laid BY PROGRAM, IN A SANDBOX (cutbox-door.mjs). By AI agents, Wed Nov 11 2026. No macro, syntax, notation, axiom, sorry.
-/
import Derived.Test.YtlpbbjjibnbooaaGreatDoorRows
import GoSem.ClaimSeven
namespace Go.Proofs.YtlpbbjjibnbooaaGreatDoor
namespace Rows

/-- THE TIED CARD OF 'polderlaw18.UberBack'. -/
def uberBackCard : Claim7 := { stood := { row := uberBackRow, standIns := [], harness := (true, "cad8ba91073f66cac4b7d2ba93b60123d00e730e0a9daee247783557f0d3d2f5"), looks := false }, kinds := [], alts := [], laidByText := true, laidKinds := [.data, .pinned], laidTests := true, laidLooks := .later }
def UberBackCardSaid : Prop := Claim7.holds Tryz.pinned (.plain (OpenSpec.ofChange uberBackSpec)) uberBackCard

/-- THE TIED CARD OF 'polderlaw18.UberBest'. -/
def uberBestCard : Claim7 := { stood := { row := uberBestRow, standIns := [], harness := (true, "cad8ba91073f66cac4b7d2ba93b60123d00e730e0a9daee247783557f0d3d2f5"), looks := false }, kinds := [], alts := [], laidByText := true, laidKinds := [.data, .pinned], laidTests := true, laidLooks := .later }
def UberBestCardSaid : Prop := Claim7.holds Tryz.pinned (.plain (OpenSpec.ofChange uberBestSpec)) uberBestCard

/-- THE TIED CARD OF 'polderlaw18.UberPlays'. -/
def uberPlaysCard : Claim7 := { stood := { row := uberPlaysRow, standIns := [], harness := (true, "cad8ba91073f66cac4b7d2ba93b60123d00e730e0a9daee247783557f0d3d2f5"), looks := false }, kinds := [], alts := [], laidByText := true, laidKinds := [.data, .pinned], laidTests := true, laidLooks := .later }
def UberPlaysCardSaid : Prop := Claim7.holds Tryz.pinned (.plain (OpenSpec.ofChange uberPlaysSpec)) uberPlaysCard

/-- THE TIED CARD OF 'polderlaw18.UberRing'. -/
def uberRingCard : Claim7 := { stood := { row := uberRingRow, standIns := [], harness := (true, "cad8ba91073f66cac4b7d2ba93b60123d00e730e0a9daee247783557f0d3d2f5"), looks := false }, kinds := [], alts := [], laidByText := true, laidKinds := [.data, .pinned], laidTests := true, laidLooks := .later }
def UberRingCardSaid : Prop := Claim7.holds Tryz.pinned (.plain (OpenSpec.ofChange uberRingSpec)) uberRingCard

/-- THE TIED CARD OF 'polderlaw18.UberTorn'. -/
def uberTornCard : Claim7 := { stood := { row := uberTornRow, standIns := [], harness := (true, "cad8ba91073f66cac4b7d2ba93b60123d00e730e0a9daee247783557f0d3d2f5"), looks := false }, kinds := [], alts := [], laidByText := true, laidKinds := [.data, .pinned], laidTests := true, laidLooks := .later }
def UberTornCardSaid : Prop := Claim7.holds Tryz.pinned (.plain (OpenSpec.ofChange uberTornSpec)) uberTornCard

/-- THE SECOND FORM's CARD OF 'polderlaw18.UberBack'. -/
def uberBackUptoCard : Claim7 := { stood := { row := uberBackUptoRow, standIns := [], harness := (true, "cad8ba91073f66cac4b7d2ba93b60123d00e730e0a9daee247783557f0d3d2f5"), looks := false }, kinds := [], alts := [], laidByText := true, laidKinds := [.data, .pinned], laidTests := true, laidLooks := .later }
def UberBackUptoCardSaid : Prop := Claim7.holds Tryz.pinned (.plain (OpenSpec.upto uberBackSpec)) uberBackUptoCard

/-- THE SECOND FORM's CARD OF 'polderlaw18.UberBest'. -/
def uberBestUptoCard : Claim7 := { stood := { row := uberBestUptoRow, standIns := [], harness := (true, "cad8ba91073f66cac4b7d2ba93b60123d00e730e0a9daee247783557f0d3d2f5"), looks := false }, kinds := [], alts := [], laidByText := true, laidKinds := [.data, .pinned], laidTests := true, laidLooks := .later }
def UberBestUptoCardSaid : Prop := Claim7.holds Tryz.pinned (.plain (OpenSpec.upto uberBestSpec)) uberBestUptoCard

/-- THE SECOND FORM's CARD OF 'polderlaw18.UberPlays'. -/
def uberPlaysUptoCard : Claim7 := { stood := { row := uberPlaysUptoRow, standIns := [], harness := (true, "cad8ba91073f66cac4b7d2ba93b60123d00e730e0a9daee247783557f0d3d2f5"), looks := false }, kinds := [], alts := [], laidByText := true, laidKinds := [.data, .pinned], laidTests := true, laidLooks := .later }
def UberPlaysUptoCardSaid : Prop := Claim7.holds Tryz.pinned (.plain (OpenSpec.upto uberPlaysSpec)) uberPlaysUptoCard

/-- THE SECOND FORM's CARD OF 'polderlaw18.UberRing'. -/
def uberRingUptoCard : Claim7 := { stood := { row := uberRingUptoRow, standIns := [], harness := (true, "cad8ba91073f66cac4b7d2ba93b60123d00e730e0a9daee247783557f0d3d2f5"), looks := false }, kinds := [], alts := [], laidByText := true, laidKinds := [.data, .pinned], laidTests := true, laidLooks := .later }
def UberRingUptoCardSaid : Prop := Claim7.holds Tryz.pinned (.plain (OpenSpec.upto uberRingSpec)) uberRingUptoCard

/-- THE SECOND FORM's CARD OF 'polderlaw18.UberTorn'. -/
def uberTornUptoCard : Claim7 := { stood := { row := uberTornUptoRow, standIns := [], harness := (true, "cad8ba91073f66cac4b7d2ba93b60123d00e730e0a9daee247783557f0d3d2f5"), looks := false }, kinds := [], alts := [], laidByText := true, laidKinds := [.data, .pinned], laidTests := true, laidLooks := .later }
def UberTornUptoCardSaid : Prop := Claim7.holds Tryz.pinned (.plain (OpenSpec.upto uberTornSpec)) uberTornUptoCard
end Rows
end Go.Proofs.YtlpbbjjibnbooaaGreatDoor
