/-
  DERIVED. GIVEN WITH THE SEED: THE CARDS: each row of YtidmbibpoldgcaaGreatDoorRows.lean that lists a variable, with what it lists TIED to the program's text (the seventh form; the later family's looks); each row that meets fmt, with fmt's text TOLD by the authors' own Lean function (tested against real Go, not proved from fmt's source: count such statements apart). THE CARD IS WHAT COUNTS. Prove the row's statement (the work); the ties are given (YtidmbibpoldgcaaGreatDoorTie.lean); close each card by the builder's one call (the guide's Derived/Test/ToyasCard.lean, 'card_holds'). Laid BY PROGRAM, IN A SANDBOX (cutbox-door.mjs). By AI agents, Wed Nov 11 2026. No macro, syntax, notation, axiom, sorry.
-/
import Derived.Test.YtidmbibpoldgcaaGreatDoorRows
import GoSem.ClaimSeven
namespace Go.Proofs.YtidmbibpoldgcaaGreatDoor
namespace Rows

/-- THE TIED CARD OF 'polderlaw17.MasterUnlike'. -/
def masterUnlikeCard : Claim7 := { stood := { row := masterUnlikeRow, standIns := [], harness := (true, "832c43e0f93003f7657ff18ebf1fbe39a049a798c1a64d5457507598df0ff4a2"), looks := false }, kinds := [], alts := [], laidByText := true, laidKinds := [.data, .pinned], laidTests := true, laidLooks := .later }
def MasterUnlikeCardSaid : Prop := Claim7.holds Tryz.pinned (.plain (OpenSpec.ofChange masterUnlikeSpec)) masterUnlikeCard

/-- THE TIED CARD OF 'polderlaw17.MasterBack'. -/
def masterBackCard : Claim7 := { stood := { row := masterBackRow, standIns := [], harness := (true, "832c43e0f93003f7657ff18ebf1fbe39a049a798c1a64d5457507598df0ff4a2"), looks := false }, kinds := [], alts := [], laidByText := true, laidKinds := [.data, .pinned], laidTests := true, laidLooks := .later }
def MasterBackCardSaid : Prop := Claim7.holds Tryz.pinned (.plain (OpenSpec.ofChange masterBackSpec)) masterBackCard

/-- THE SECOND FORM's CARD OF 'polderlaw17.MasterUnlike'. -/
def masterUnlikeUptoCard : Claim7 := { stood := { row := masterUnlikeUptoRow, standIns := [], harness := (true, "832c43e0f93003f7657ff18ebf1fbe39a049a798c1a64d5457507598df0ff4a2"), looks := false }, kinds := [], alts := [], laidByText := true, laidKinds := [.data, .pinned], laidTests := true, laidLooks := .later }
def MasterUnlikeUptoCardSaid : Prop := Claim7.holds Tryz.pinned (.plain (OpenSpec.upto masterUnlikeSpec)) masterUnlikeUptoCard

/-- THE SECOND FORM's CARD OF 'polderlaw17.MasterBack'. -/
def masterBackUptoCard : Claim7 := { stood := { row := masterBackUptoRow, standIns := [], harness := (true, "832c43e0f93003f7657ff18ebf1fbe39a049a798c1a64d5457507598df0ff4a2"), looks := false }, kinds := [], alts := [], laidByText := true, laidKinds := [.data, .pinned], laidTests := true, laidLooks := .later }
def MasterBackUptoCardSaid : Prop := Claim7.holds Tryz.pinned (.plain (OpenSpec.upto masterBackSpec)) masterBackUptoCard
end Rows
end Go.Proofs.YtidmbibpoldgcaaGreatDoor
