/-
  DERIVED. GIVEN WITH THE SEED: THE CARDS: each row of YtblmjaenoleaaaaDoorRows.lean that lists a variable, with what it lists TIED to the program's text (the seventh form; the later family's looks); each row that meets fmt, with fmt's text TOLD by the authors' own Lean function (tested against real Go, not proved from fmt's source: count such statements apart). THE CARD IS WHAT COUNTS. Prove the row's statement (the work); the ties are given (YtblmjaenoleaaaaDoorTie.lean); close each card by the builder's one call (the guide's Derived/Test/ToyasCard.lean, 'card_holds'). Laid BY PROGRAM, IN A SANDBOX (cutbox-door.mjs). By AI agents, Wed Nov 11 2026. No macro, syntax, notation, axiom, sorry.
-/
import Derived.Test.YtblmjaenoleaaaaDoorRows
import GoSem.ClaimSeven
namespace Go.Proofs.YtblmjaenoleaaaaDoor
namespace Rows

/-- THE TIED CARD OF 'polderlaw01.LeNil'. -/
def leNilCard : Claim7 := { stood := { row := leNilRow, standIns := [], harness := (true, "c940625fe2a446558e1cb198765f75bc25719c9ea32057516ca7a182196d1c56"), looks := false }, kinds := [], alts := [], laidByText := true, laidKinds := [.data, .pinned], laidTests := true, laidLooks := .later }
def LeNilCardSaid : Prop := Claim7.holds Tryd.pinned (.plain (OpenSpec.ofChange leNilSpec)) leNilCard

/-- THE TIED CARD OF 'polderlaw01.LePlays'. -/
def lePlaysCard : Claim7 := { stood := { row := lePlaysRow, standIns := [], harness := (true, "c940625fe2a446558e1cb198765f75bc25719c9ea32057516ca7a182196d1c56"), looks := false }, kinds := [], alts := [], laidByText := true, laidKinds := [.data, .pinned], laidTests := true, laidLooks := .later }
def LePlaysCardSaid : Prop := Claim7.holds Tryd.pinned (.plain (OpenSpec.ofChange lePlaysSpec)) lePlaysCard

/-- THE TIED CARD OF 'polderlaw01.LeBack'. -/
def leBackCard : Claim7 := { stood := { row := leBackRow, standIns := [], harness := (true, "c940625fe2a446558e1cb198765f75bc25719c9ea32057516ca7a182196d1c56"), looks := false }, kinds := [], alts := [], laidByText := true, laidKinds := [.data, .pinned], laidTests := true, laidLooks := .later }
def LeBackCardSaid : Prop := Claim7.holds Tryd.pinned (.plain (OpenSpec.ofChange leBackSpec)) leBackCard

/-- THE SECOND FORM's CARD OF 'polderlaw01.LeNil'. -/
def leNilUptoCard : Claim7 := { stood := { row := leNilUptoRow, standIns := [], harness := (true, "c940625fe2a446558e1cb198765f75bc25719c9ea32057516ca7a182196d1c56"), looks := false }, kinds := [], alts := [], laidByText := true, laidKinds := [.data, .pinned], laidTests := true, laidLooks := .later }
def LeNilUptoCardSaid : Prop := Claim7.holds Tryd.pinned (.plain (OpenSpec.upto leNilSpec)) leNilUptoCard

/-- THE SECOND FORM's CARD OF 'polderlaw01.LePlays'. -/
def lePlaysUptoCard : Claim7 := { stood := { row := lePlaysUptoRow, standIns := [], harness := (true, "c940625fe2a446558e1cb198765f75bc25719c9ea32057516ca7a182196d1c56"), looks := false }, kinds := [], alts := [], laidByText := true, laidKinds := [.data, .pinned], laidTests := true, laidLooks := .later }
def LePlaysUptoCardSaid : Prop := Claim7.holds Tryd.pinned (.plain (OpenSpec.upto lePlaysSpec)) lePlaysUptoCard

/-- THE SECOND FORM's CARD OF 'polderlaw01.LeBack'. -/
def leBackUptoCard : Claim7 := { stood := { row := leBackUptoRow, standIns := [], harness := (true, "c940625fe2a446558e1cb198765f75bc25719c9ea32057516ca7a182196d1c56"), looks := false }, kinds := [], alts := [], laidByText := true, laidKinds := [.data, .pinned], laidTests := true, laidLooks := .later }
def LeBackUptoCardSaid : Prop := Claim7.holds Tryd.pinned (.plain (OpenSpec.upto leBackSpec)) leBackUptoCard
end Rows
end Go.Proofs.YtblmjaenoleaaaaDoor
