/-
  DERIVED. GIVEN WITH THE SEED: THE CARDS: each row of YtnagcmfecggllaaDoorRows.lean that lists a variable, with what it lists TIED to the program's text (the seventh form; the later family's looks); each row that meets fmt, with fmt's text TOLD by the authors' own Lean function (tested against real Go, not proved from fmt's source: count such statements apart). THE CARD IS WHAT COUNTS. Prove the row's statement (the work); the ties are given (YtnagcmfecggllaaDoorTie.lean); close each card by the builder's one call (the guide's Derived/Test/ToyasCard.lean, 'card_holds'). Laid BY PROGRAM, IN A SANDBOX (cutbox-door.mjs). By AI agents, Wed Nov 11 2026. No macro, syntax, notation, axiom, sorry.
-/
import Derived.Test.YtnagcmfecggllaaDoorRows
import GoSem.ClaimSeven
namespace Go.Proofs.YtnagcmfecggllaaDoor
namespace Rows

/-- THE TIED CARD OF 'polderlaw09.PtrBack'. -/
def ptrBackCard : Claim7 := { stood := { row := ptrBackRow, standIns := [], harness := (true, "070e5cd11aa5f3a3bee812b773a866c3ca3ccff6015d007a6d92360b4d70b628"), looks := false }, kinds := [], alts := [], laidByText := true, laidKinds := [.data, .pinned], laidTests := true, laidLooks := .later }
def PtrBackCardSaid : Prop := Claim7.holds Tryd.pinned (.plain (OpenSpec.ofChange ptrBackSpec)) ptrBackCard

/-- THE TIED CARD OF 'polderlaw09.PtrPlays'. -/
def ptrPlaysCard : Claim7 := { stood := { row := ptrPlaysRow, standIns := [], harness := (true, "070e5cd11aa5f3a3bee812b773a866c3ca3ccff6015d007a6d92360b4d70b628"), looks := false }, kinds := [], alts := [], laidByText := true, laidKinds := [.data, .pinned], laidTests := true, laidLooks := .later }
def PtrPlaysCardSaid : Prop := Claim7.holds Tryd.pinned (.plain (OpenSpec.ofChange ptrPlaysSpec)) ptrPlaysCard

/-- THE SECOND FORM's CARD OF 'polderlaw09.PtrBack'. -/
def ptrBackUptoCard : Claim7 := { stood := { row := ptrBackUptoRow, standIns := [], harness := (true, "070e5cd11aa5f3a3bee812b773a866c3ca3ccff6015d007a6d92360b4d70b628"), looks := false }, kinds := [], alts := [], laidByText := true, laidKinds := [.data, .pinned], laidTests := true, laidLooks := .later }
def PtrBackUptoCardSaid : Prop := Claim7.holds Tryd.pinned (.plain (OpenSpec.upto ptrBackSpec)) ptrBackUptoCard

/-- THE SECOND FORM's CARD OF 'polderlaw09.PtrPlays'. -/
def ptrPlaysUptoCard : Claim7 := { stood := { row := ptrPlaysUptoRow, standIns := [], harness := (true, "070e5cd11aa5f3a3bee812b773a866c3ca3ccff6015d007a6d92360b4d70b628"), looks := false }, kinds := [], alts := [], laidByText := true, laidKinds := [.data, .pinned], laidTests := true, laidLooks := .later }
def PtrPlaysUptoCardSaid : Prop := Claim7.holds Tryd.pinned (.plain (OpenSpec.upto ptrPlaysSpec)) ptrPlaysUptoCard
end Rows
end Go.Proofs.YtnagcmfecggllaaDoor
