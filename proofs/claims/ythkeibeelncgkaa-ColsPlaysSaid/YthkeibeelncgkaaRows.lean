/-
  No cell of these rows narrows 'for every input' (looked for: loops, veiled, ifaces, maps, wideKeys, modest, calm, conditions, laid).
  DERIVED. THE GIVEN ROWS OF THIS SEAT. 5 by the template 'for every input the law returns true; each argument reads behind the call as it read before'; 0 by the template 'total and deterministic' (their statements: YthkeibeelncgkaaTotals.lean).
  GIVEN WITH THE SEED: the statements are not yours to turn. If you find one false, say at which input.
  Laid BY PROGRAM, IN A SANDBOX (cutbox-rows.mjs): the forced cells as the released guide's own fill.sh prints them over the translation 74f77d21b8d3c290… (all of the seat's roots in one cut). By AI agents, Wed Nov 11 2026. No macro, syntax, notation, axiom, sorry.
-/
import Derived.Test.YthkeibeelncgkaaChecked
import GoSem.Claim
import GoSem.ClaimJoined
import GoSem.ClaimMapViews
import Derived.JoinedTies
import Derived.KernelRfl
namespace Go.Proofs.Ythkeibeelncgkaa
/- THE CELL 'sum', in the pinned program and in every row, IS THE sha256 OF THE DUMP (.gsa) THAT YthkeibeelncgkaaProg.lean LOADS. Nothing in Lean hashes anything: it is a label: what it is worth is what the hold of that sum in a sandbox is worth. -/
noncomputable def Try.pinned : Pinned := { name := "ythkeibeelncgkaa", sum := "74f77d21b8d3c290d09fec099b6f1ac6405049caaf97cea33cbefd2f08f7d3f4", checked := Try.checked }
namespace Rows
def none {H : Type} : Left H := { results := [], args := [] }

/-- 'polderlaw06.ColsApart': WHATEVER THE INPUT: true; the input reads as it did. -/
def colsApartSpec : ChangeSpec := { name := "colsApart", fn := fun _ => fun
  | [d1, d2, d3, d4, d5] => { results := [.lit (.bool true)], args := [d1, d2, d3, d4, d5] }
  | _ => none }
def colsApartRow : OpenClaim := { program := "ythkeibeelncgkaa", sum := "74f77d21b8d3c290d09fec099b6f1ac6405049caaf97cea33cbefd2f08f7d3f4", func := "polder/polderlaw06.ColsApart", spec := "colsApart", unfollowed := true, recurses := true, apart := false }
def ColsApartSaid : Prop := colsApartRow.holds Try.pinned (OpenSpec.ofChange colsApartSpec)

/-- ITS FALSE NEIGHBOUR: 'it returns false'. Refute it at one input. -/
def colsApartWrong : ChangeSpec := { name := "colsApart", fn := fun _ => fun
  | [d1, d2, d3, d4, d5] => { results := [.lit (.bool false)], args := [d1, d2, d3, d4, d5] }
  | _ => none }
def ColsApartWrongFalsely : Prop := colsApartRow.holds Try.pinned (OpenSpec.ofChange colsApartWrong)

/-- 'polderlaw06.ColsData': WHATEVER THE INPUT: true; the input reads as it did. -/
def colsDataSpec : ChangeSpec := { name := "colsData", fn := fun _ => fun
  | [d1, d2, d3] => { results := [.lit (.bool true)], args := [d1, d2, d3] }
  | _ => none }
def colsDataRow : OpenClaim := { program := "ythkeibeelncgkaa", sum := "74f77d21b8d3c290d09fec099b6f1ac6405049caaf97cea33cbefd2f08f7d3f4", func := "polder/polderlaw06.ColsData", spec := "colsData", unfollowed := true, recurses := true, apart := false }
def ColsDataSaid : Prop := colsDataRow.holds Try.pinned (OpenSpec.ofChange colsDataSpec)

/-- ITS FALSE NEIGHBOUR: 'it returns false'. Refute it at one input. -/
def colsDataWrong : ChangeSpec := { name := "colsData", fn := fun _ => fun
  | [d1, d2, d3] => { results := [.lit (.bool false)], args := [d1, d2, d3] }
  | _ => none }
def ColsDataWrongFalsely : Prop := colsDataRow.holds Try.pinned (OpenSpec.ofChange colsDataWrong)

/-- 'polderlaw06.ColsRows': WHATEVER THE INPUT: true; the input reads as it did. -/
def colsRowsSpec : ChangeSpec := { name := "colsRows", fn := fun _ => fun
  | [d1, d2, d3] => { results := [.lit (.bool true)], args := [d1, d2, d3] }
  | _ => none }
def colsRowsRow : OpenClaim := { program := "ythkeibeelncgkaa", sum := "74f77d21b8d3c290d09fec099b6f1ac6405049caaf97cea33cbefd2f08f7d3f4", func := "polder/polderlaw06.ColsRows", spec := "colsRows", unfollowed := true, recurses := true, apart := false }
def ColsRowsSaid : Prop := colsRowsRow.holds Try.pinned (OpenSpec.ofChange colsRowsSpec)

/-- ITS FALSE NEIGHBOUR: 'it returns false'. Refute it at one input. -/
def colsRowsWrong : ChangeSpec := { name := "colsRows", fn := fun _ => fun
  | [d1, d2, d3] => { results := [.lit (.bool false)], args := [d1, d2, d3] }
  | _ => none }
def ColsRowsWrongFalsely : Prop := colsRowsRow.holds Try.pinned (OpenSpec.ofChange colsRowsWrong)

/-- 'polderlaw06.ColsDevs': WHATEVER THE INPUT: true; the input reads as it did. -/
def colsDevsSpec : ChangeSpec := { name := "colsDevs", fn := fun _ => fun
  | [d1, d2, d3] => { results := [.lit (.bool true)], args := [d1, d2, d3] }
  | _ => none }
def colsDevsRow : OpenClaim := { program := "ythkeibeelncgkaa", sum := "74f77d21b8d3c290d09fec099b6f1ac6405049caaf97cea33cbefd2f08f7d3f4", func := "polder/polderlaw06.ColsDevs", spec := "colsDevs", unfollowed := true, recurses := true, apart := false }
def ColsDevsSaid : Prop := colsDevsRow.holds Try.pinned (OpenSpec.ofChange colsDevsSpec)

/-- ITS FALSE NEIGHBOUR: 'it returns false'. Refute it at one input. -/
def colsDevsWrong : ChangeSpec := { name := "colsDevs", fn := fun _ => fun
  | [d1, d2, d3] => { results := [.lit (.bool false)], args := [d1, d2, d3] }
  | _ => none }
def ColsDevsWrongFalsely : Prop := colsDevsRow.holds Try.pinned (OpenSpec.ofChange colsDevsWrong)

/-- 'polderlaw06.ColsPlays': WHATEVER THE INPUT: true; the input reads as it did. -/
def colsPlaysSpec : ChangeSpec := { name := "colsPlays", fn := fun _ => fun
  | [d1, d2, d3, d4] => { results := [.lit (.bool true)], args := [d1, d2, d3, d4] }
  | _ => none }
def colsPlaysRow : OpenClaim := { program := "ythkeibeelncgkaa", sum := "74f77d21b8d3c290d09fec099b6f1ac6405049caaf97cea33cbefd2f08f7d3f4", func := "polder/polderlaw06.ColsPlays", spec := "colsPlays", unfollowed := true, recurses := true, apart := false }
def ColsPlaysSaid : Prop := colsPlaysRow.holds Try.pinned (OpenSpec.ofChange colsPlaysSpec)

/-- ITS FALSE NEIGHBOUR: 'it returns false'. Refute it at one input. -/
def colsPlaysWrong : ChangeSpec := { name := "colsPlays", fn := fun _ => fun
  | [d1, d2, d3, d4] => { results := [.lit (.bool false)], args := [d1, d2, d3, d4] }
  | _ => none }
def ColsPlaysWrongFalsely : Prop := colsPlaysRow.holds Try.pinned (OpenSpec.ofChange colsPlaysWrong)

/- THE SECOND FORM. 'bulk': how many values and letters a reading holds, each counted each time it is reached (what is shared counts as often as it is met; a slice's spare places count too). A statement '..UptoSaid' is the law's where the arguments, and the package variables that the reading takes, are together of bulk at most 1048576: NARROWER than '..Said'. Prove '..Said' where nothing that the law and all that it calls make is longer than what came in: it says more and counts as full. Else prove '..UptoSaid'. A law counts once. -/
mutual
def uptoBulk {H : Type} : DataW H → Nat
  | .lit (.string bytes) => bytes.length + 1
  | .lit _ => 1
  | .nil => 1
  | .ptr d => uptoBulk d + 1
  | .slice elems spare => uptoBulkAll elems + uptoBulkAll spare + 1
  | .agg parts => uptoBulkAll parts + 1
  | .iface _ d => uptoBulk d + 1
  | .map entries => uptoBulkEntries entries + 1
  | .held _ => 1
def uptoBulkAll {H : Type} : List (DataW H) → Nat
  | [] => 0
  | d :: r => uptoBulk d + uptoBulkAll r
def uptoBulkEntries {H : Type} : List (Lit × DataW H) → Nat
  | [] => 0
  | x :: r => uptoBulkEntry x + uptoBulkEntries r
def uptoBulkEntry {H : Type} : Lit × DataW H → Nat
  | (.string bytes, d) => bytes.length + uptoBulk d + 1
  | (_, d) => uptoBulk d + 1
 end
def uptoSmall : (H : Type) → List (DataW H) → Bool := fun _ ds => decide (uptoBulkAll ds ≤ 1048576)
def OpenSpec.upto (s : _root_.Go.ChangeSpec) : _root_.Go.OpenSpec := { _root_.Go.OpenSpec.ofChange s with cond := some uptoSmall }

/-- 'polderlaw06.ColsApart', WHERE WHAT IT READS IS OF BULK AT MOST 1048576: true; the input reads as it did. -/
def colsApartUptoRow : OpenClaim := { program := "ythkeibeelncgkaa", sum := "74f77d21b8d3c290d09fec099b6f1ac6405049caaf97cea33cbefd2f08f7d3f4", func := "polder/polderlaw06.ColsApart", spec := "colsApart", unfollowed := true, recurses := true, apart := false, narrowed := true }
def ColsApartUptoSaid : Prop := colsApartUptoRow.holds Try.pinned (OpenSpec.upto colsApartSpec)

/-- 'polderlaw06.ColsData', WHERE WHAT IT READS IS OF BULK AT MOST 1048576: true; the input reads as it did. -/
def colsDataUptoRow : OpenClaim := { program := "ythkeibeelncgkaa", sum := "74f77d21b8d3c290d09fec099b6f1ac6405049caaf97cea33cbefd2f08f7d3f4", func := "polder/polderlaw06.ColsData", spec := "colsData", unfollowed := true, recurses := true, apart := false, narrowed := true }
def ColsDataUptoSaid : Prop := colsDataUptoRow.holds Try.pinned (OpenSpec.upto colsDataSpec)

/-- 'polderlaw06.ColsRows', WHERE WHAT IT READS IS OF BULK AT MOST 1048576: true; the input reads as it did. -/
def colsRowsUptoRow : OpenClaim := { program := "ythkeibeelncgkaa", sum := "74f77d21b8d3c290d09fec099b6f1ac6405049caaf97cea33cbefd2f08f7d3f4", func := "polder/polderlaw06.ColsRows", spec := "colsRows", unfollowed := true, recurses := true, apart := false, narrowed := true }
def ColsRowsUptoSaid : Prop := colsRowsUptoRow.holds Try.pinned (OpenSpec.upto colsRowsSpec)

/-- 'polderlaw06.ColsDevs', WHERE WHAT IT READS IS OF BULK AT MOST 1048576: true; the input reads as it did. -/
def colsDevsUptoRow : OpenClaim := { program := "ythkeibeelncgkaa", sum := "74f77d21b8d3c290d09fec099b6f1ac6405049caaf97cea33cbefd2f08f7d3f4", func := "polder/polderlaw06.ColsDevs", spec := "colsDevs", unfollowed := true, recurses := true, apart := false, narrowed := true }
def ColsDevsUptoSaid : Prop := colsDevsUptoRow.holds Try.pinned (OpenSpec.upto colsDevsSpec)

/-- 'polderlaw06.ColsPlays', WHERE WHAT IT READS IS OF BULK AT MOST 1048576: true; the input reads as it did. -/
def colsPlaysUptoRow : OpenClaim := { program := "ythkeibeelncgkaa", sum := "74f77d21b8d3c290d09fec099b6f1ac6405049caaf97cea33cbefd2f08f7d3f4", func := "polder/polderlaw06.ColsPlays", spec := "colsPlays", unfollowed := true, recurses := true, apart := false, narrowed := true }
def ColsPlaysUptoSaid : Prop := colsPlaysUptoRow.holds Try.pinned (OpenSpec.upto colsPlaysSpec)

end Rows
end Go.Proofs.Ythkeibeelncgkaa
