/-
  No cell of these rows narrows 'for every input' (looked for: loops, veiled, ifaces, maps, wideKeys, modest, calm, conditions, laid).
  DERIVED. THE GIVEN ROWS OF THIS SEAT. 5 by the template 'for every input the law returns true; each argument reads behind the call as it read before'; 0 by the template 'total and deterministic' (their statements: YtckicdbiiepngaaTotals.lean).
  GIVEN WITH THE SEED: the statements are not yours to turn. If you find one false, say at which input.
  Laid BY PROGRAM, IN A SANDBOX (cutbox-rows.mjs): the forced cells as the released guide's own fill.sh prints them over the translation fa54323eb91d1cc7… (all of the seat's roots in one cut). By AI agents, Wed Nov 11 2026. No macro, syntax, notation, axiom, sorry.
-/
import Derived.Test.YtckicdbiiepngaaChecked
import GoSem.Claim
import GoSem.ClaimJoined
import GoSem.ClaimMapViews
import Derived.JoinedTies
import Derived.KernelRfl
namespace Go.Proofs.Ytckicdbiiepngaa
/- THE CELL 'sum', in the pinned program and in every row, IS THE sha256 OF THE DUMP (.gsa) THAT YtckicdbiiepngaaProg.lean LOADS. Nothing in Lean hashes anything: it is a label: what it is worth is what the hold of that sum in a sandbox is worth. -/
noncomputable def Try.pinned : Pinned := { name := "ytckicdbiiepngaa", sum := "fa54323eb91d1cc781e78d4ca764c3679dce42b186e76453c8ca5bb9a9da5b05", checked := Try.checked }
namespace Rows
def none {H : Type} : Left H := { results := [], args := [] }

/-- 'polderlaw24.ModelReads': WHATEVER THE INPUT: true; the input reads as it did. -/
def modelReadsSpec : ChangeSpec := { name := "modelReads", fn := fun _ => fun
  | [d1, d2, d3, d4, d5] => { results := [.lit (.bool true)], args := [d1, d2, d3, d4, d5] }
  | _ => none }
def modelReadsRow : OpenClaim := { program := "ytckicdbiiepngaa", sum := "fa54323eb91d1cc781e78d4ca764c3679dce42b186e76453c8ca5bb9a9da5b05", func := "polder/polderlaw24.ModelReads", spec := "modelReads", inPlace := ["maps.clone"], unfollowed := true, recurses := true, apart := false }
def ModelReadsSaid : Prop := modelReadsRow.holds Try.pinned (OpenSpec.ofChange modelReadsSpec)

/-- ITS FALSE NEIGHBOUR: 'it returns false'. Refute it at one input. -/
def modelReadsWrong : ChangeSpec := { name := "modelReads", fn := fun _ => fun
  | [d1, d2, d3, d4, d5] => { results := [.lit (.bool false)], args := [d1, d2, d3, d4, d5] }
  | _ => none }
def ModelReadsWrongFalsely : Prop := modelReadsRow.holds Try.pinned (OpenSpec.ofChange modelReadsWrong)

/-- 'polderlaw24.ModelBack': WHATEVER THE INPUT: true; the input reads as it did. -/
def modelBackSpec : ChangeSpec := { name := "modelBack", fn := fun _ => fun
  | [d1, d2] => { results := [.lit (.bool true)], args := [d1, d2] }
  | _ => none }
def modelBackRow : OpenClaim := { program := "ytckicdbiiepngaa", sum := "fa54323eb91d1cc781e78d4ca764c3679dce42b186e76453c8ca5bb9a9da5b05", func := "polder/polderlaw24.ModelBack", spec := "modelBack", inPlace := ["maps.clone"], unfollowed := true, recurses := true, apart := false }
def ModelBackSaid : Prop := modelBackRow.holds Try.pinned (OpenSpec.ofChange modelBackSpec)

/-- ITS FALSE NEIGHBOUR: 'it returns false'. Refute it at one input. -/
def modelBackWrong : ChangeSpec := { name := "modelBack", fn := fun _ => fun
  | [d1, d2] => { results := [.lit (.bool false)], args := [d1, d2] }
  | _ => none }
def ModelBackWrongFalsely : Prop := modelBackRow.holds Try.pinned (OpenSpec.ofChange modelBackWrong)

/-- 'polderlaw24.ModelRefuses': WHATEVER THE INPUT: true; the input reads as it did. -/
def modelRefusesSpec : ChangeSpec := { name := "modelRefuses", fn := fun _ => fun
  | [d1, d2] => { results := [.lit (.bool true)], args := [d1, d2] }
  | _ => none }
def modelRefusesRow : OpenClaim := { program := "ytckicdbiiepngaa", sum := "fa54323eb91d1cc781e78d4ca764c3679dce42b186e76453c8ca5bb9a9da5b05", func := "polder/polderlaw24.ModelRefuses", spec := "modelRefuses", inPlace := ["maps.clone"], unfollowed := true, recurses := true, apart := false }
def ModelRefusesSaid : Prop := modelRefusesRow.holds Try.pinned (OpenSpec.ofChange modelRefusesSpec)

/-- ITS FALSE NEIGHBOUR: 'it returns false'. Refute it at one input. -/
def modelRefusesWrong : ChangeSpec := { name := "modelRefuses", fn := fun _ => fun
  | [d1, d2] => { results := [.lit (.bool false)], args := [d1, d2] }
  | _ => none }
def ModelRefusesWrongFalsely : Prop := modelRefusesRow.holds Try.pinned (OpenSpec.ofChange modelRefusesWrong)

/-- 'polderlaw24.ModelCopies': WHATEVER THE INPUT: true; the input reads as it did. -/
def modelCopiesSpec : ChangeSpec := { name := "modelCopies", fn := fun _ => fun
  | [d1, d2] => { results := [.lit (.bool true)], args := [d1, d2] }
  | _ => none }
def modelCopiesRow : OpenClaim := { program := "ytckicdbiiepngaa", sum := "fa54323eb91d1cc781e78d4ca764c3679dce42b186e76453c8ca5bb9a9da5b05", func := "polder/polderlaw24.ModelCopies", spec := "modelCopies", inPlace := ["maps.clone"], unfollowed := true, recurses := true, apart := false }
def ModelCopiesSaid : Prop := modelCopiesRow.holds Try.pinned (OpenSpec.ofChange modelCopiesSpec)

/-- ITS FALSE NEIGHBOUR: 'it returns false'. Refute it at one input. -/
def modelCopiesWrong : ChangeSpec := { name := "modelCopies", fn := fun _ => fun
  | [d1, d2] => { results := [.lit (.bool false)], args := [d1, d2] }
  | _ => none }
def ModelCopiesWrongFalsely : Prop := modelCopiesRow.holds Try.pinned (OpenSpec.ofChange modelCopiesWrong)

/-- 'polderlaw24.ModelNil': WHATEVER THE INPUT: true; the input reads as it did. -/
def modelNilSpec : ChangeSpec := { name := "modelNil", fn := fun _ => fun
  | [d1, d2] => { results := [.lit (.bool true)], args := [d1, d2] }
  | _ => none }
def modelNilRow : OpenClaim := { program := "ytckicdbiiepngaa", sum := "fa54323eb91d1cc781e78d4ca764c3679dce42b186e76453c8ca5bb9a9da5b05", func := "polder/polderlaw24.ModelNil", spec := "modelNil", inPlace := ["maps.clone"], unfollowed := true, recurses := true, apart := false }
def ModelNilSaid : Prop := modelNilRow.holds Try.pinned (OpenSpec.ofChange modelNilSpec)

/-- ITS FALSE NEIGHBOUR: 'it returns false'. Refute it at one input. -/
def modelNilWrong : ChangeSpec := { name := "modelNil", fn := fun _ => fun
  | [d1, d2] => { results := [.lit (.bool false)], args := [d1, d2] }
  | _ => none }
def ModelNilWrongFalsely : Prop := modelNilRow.holds Try.pinned (OpenSpec.ofChange modelNilWrong)

/- THE SECOND FORM. 'bulk': how many values and letters a reading holds, each counted each time it is reached (what is shared counts as often as it is met; a slice's spare places count too). A statement '..UptoSaid' is the law's where the arguments, and the package variables that the reading takes, are together of bulk at most 1048576: NARROWER than '..Said'. Prove '..Said' where nothing that the law and all that it calls make is longer than what came in: it says more and counts as full. Else prove '..UptoSaid'. A law counts once. -/
mutual
def uptoBulk {H : Type} : DataW H → Nat
  | .lit (.string bytes) => bytes.length + 1
  | .lit _ => 1
  | .nil => 1
  | .ptr d => uptoBulk d + 1
  | .slice elems spare => uptoBulkAll elems + uptoBulkAll spare + 1
  | .agg parts => uptoBulkAll parts + 1
  | .iface _ d => uptoBulk d + 1
  | .map entries => uptoBulkEntries entries + 1
  | .held _ => 1
def uptoBulkAll {H : Type} : List (DataW H) → Nat
  | [] => 0
  | d :: r => uptoBulk d + uptoBulkAll r
def uptoBulkEntries {H : Type} : List (Lit × DataW H) → Nat
  | [] => 0
  | x :: r => uptoBulkEntry x + uptoBulkEntries r
def uptoBulkEntry {H : Type} : Lit × DataW H → Nat
  | (.string bytes, d) => bytes.length + uptoBulk d + 1
  | (_, d) => uptoBulk d + 1
 end
def uptoSmall : (H : Type) → List (DataW H) → Bool := fun _ ds => decide (uptoBulkAll ds ≤ 1048576)
def OpenSpec.upto (s : _root_.Go.ChangeSpec) : _root_.Go.OpenSpec := { _root_.Go.OpenSpec.ofChange s with cond := some uptoSmall }

/-- 'polderlaw24.ModelReads', WHERE WHAT IT READS IS OF BULK AT MOST 1048576: true; the input reads as it did. -/
def modelReadsUptoRow : OpenClaim := { program := "ytckicdbiiepngaa", sum := "fa54323eb91d1cc781e78d4ca764c3679dce42b186e76453c8ca5bb9a9da5b05", func := "polder/polderlaw24.ModelReads", spec := "modelReads", inPlace := ["maps.clone"], unfollowed := true, recurses := true, apart := false, narrowed := true }
def ModelReadsUptoSaid : Prop := modelReadsUptoRow.holds Try.pinned (OpenSpec.upto modelReadsSpec)

/-- 'polderlaw24.ModelBack', WHERE WHAT IT READS IS OF BULK AT MOST 1048576: true; the input reads as it did. -/
def modelBackUptoRow : OpenClaim := { program := "ytckicdbiiepngaa", sum := "fa54323eb91d1cc781e78d4ca764c3679dce42b186e76453c8ca5bb9a9da5b05", func := "polder/polderlaw24.ModelBack", spec := "modelBack", inPlace := ["maps.clone"], unfollowed := true, recurses := true, apart := false, narrowed := true }
def ModelBackUptoSaid : Prop := modelBackUptoRow.holds Try.pinned (OpenSpec.upto modelBackSpec)

/-- 'polderlaw24.ModelRefuses', WHERE WHAT IT READS IS OF BULK AT MOST 1048576: true; the input reads as it did. -/
def modelRefusesUptoRow : OpenClaim := { program := "ytckicdbiiepngaa", sum := "fa54323eb91d1cc781e78d4ca764c3679dce42b186e76453c8ca5bb9a9da5b05", func := "polder/polderlaw24.ModelRefuses", spec := "modelRefuses", inPlace := ["maps.clone"], unfollowed := true, recurses := true, apart := false, narrowed := true }
def ModelRefusesUptoSaid : Prop := modelRefusesUptoRow.holds Try.pinned (OpenSpec.upto modelRefusesSpec)

/-- 'polderlaw24.ModelCopies', WHERE WHAT IT READS IS OF BULK AT MOST 1048576: true; the input reads as it did. -/
def modelCopiesUptoRow : OpenClaim := { program := "ytckicdbiiepngaa", sum := "fa54323eb91d1cc781e78d4ca764c3679dce42b186e76453c8ca5bb9a9da5b05", func := "polder/polderlaw24.ModelCopies", spec := "modelCopies", inPlace := ["maps.clone"], unfollowed := true, recurses := true, apart := false, narrowed := true }
def ModelCopiesUptoSaid : Prop := modelCopiesUptoRow.holds Try.pinned (OpenSpec.upto modelCopiesSpec)

/-- 'polderlaw24.ModelNil', WHERE WHAT IT READS IS OF BULK AT MOST 1048576: true; the input reads as it did. -/
def modelNilUptoRow : OpenClaim := { program := "ytckicdbiiepngaa", sum := "fa54323eb91d1cc781e78d4ca764c3679dce42b186e76453c8ca5bb9a9da5b05", func := "polder/polderlaw24.ModelNil", spec := "modelNil", inPlace := ["maps.clone"], unfollowed := true, recurses := true, apart := false, narrowed := true }
def ModelNilUptoSaid : Prop := modelNilUptoRow.holds Try.pinned (OpenSpec.upto modelNilSpec)

end Rows
end Go.Proofs.Ytckicdbiiepngaa
