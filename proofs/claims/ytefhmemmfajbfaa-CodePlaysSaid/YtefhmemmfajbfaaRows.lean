/-
  No cell of these rows narrows 'for every input' (looked for: loops, veiled, ifaces, maps, wideKeys, modest, calm, conditions, laid).
  DERIVED. THE GIVEN ROWS OF THIS SEAT. 5 by the template 'for every input the law returns true; each argument reads behind the call as it read before'; 0 by the template 'total and deterministic' (their statements: YtefhmemmfajbfaaTotals.lean).
  GIVEN WITH THE SEED: the statements are not yours to turn. If you find one false, say at which input.
  Laid BY PROGRAM, IN A SANDBOX (cutbox-rows.mjs): the forced cells as the released guide's own fill.sh prints them over the translation 8c56105ba0044ee8… (all of the seat's roots in one cut). By AI agents, Wed Nov 11 2026. No macro, syntax, notation, axiom, sorry.
-/
import Derived.Test.YtefhmemmfajbfaaChecked
import GoSem.Claim
import GoSem.ClaimJoined
import GoSem.ClaimMapViews
import Derived.JoinedTies
import Derived.KernelRfl
namespace Go.Proofs.Ytefhmemmfajbfaa
/- THE CELL 'sum', in the pinned program and in every row, IS THE sha256 OF THE DUMP (.gsa) THAT YtefhmemmfajbfaaProg.lean LOADS. Nothing in Lean hashes anything: it is a label: what it is worth is what the hold of that sum in a sandbox is worth. -/
noncomputable def Try.pinned : Pinned := { name := "ytefhmemmfajbfaa", sum := "8c56105ba0044ee89783639f6c611984f27b5d504cf369e4e50ee2dcee996bda", checked := Try.checked }
namespace Rows
def none {H : Type} : Left H := { results := [], args := [] }

/-- 'polderlaw07.CodeOne': WHATEVER THE INPUT: true; the input reads as it did. -/
def codeOneSpec : ChangeSpec := { name := "codeOne", fn := fun _ => fun
  | [d1, d2, d3, d4, d5] => { results := [.lit (.bool true)], args := [d1, d2, d3, d4, d5] }
  | _ => none }
def codeOneRow : OpenClaim := { program := "ytefhmemmfajbfaa", sum := "8c56105ba0044ee89783639f6c611984f27b5d504cf369e4e50ee2dcee996bda", func := "polder/polderlaw07.CodeOne", spec := "codeOne", inPlace := ["internal/abi.NoEscape", "internal/bytealg.MakeNoZero"], unfollowed := true, recurses := true, apart := false }
def CodeOneSaid : Prop := codeOneRow.holds Try.pinned (OpenSpec.ofChange codeOneSpec)

/-- ITS FALSE NEIGHBOUR: 'it returns false'. Refute it at one input. -/
def codeOneWrong : ChangeSpec := { name := "codeOne", fn := fun _ => fun
  | [d1, d2, d3, d4, d5] => { results := [.lit (.bool false)], args := [d1, d2, d3, d4, d5] }
  | _ => none }
def CodeOneWrongFalsely : Prop := codeOneRow.holds Try.pinned (OpenSpec.ofChange codeOneWrong)

/-- 'polderlaw07.CodeLess': WHATEVER THE INPUT: true; the input reads as it did. -/
def codeLessSpec : ChangeSpec := { name := "codeLess", fn := fun _ => fun
  | [d1, d2, d3, d4] => { results := [.lit (.bool true)], args := [d1, d2, d3, d4] }
  | _ => none }
def codeLessRow : OpenClaim := { program := "ytefhmemmfajbfaa", sum := "8c56105ba0044ee89783639f6c611984f27b5d504cf369e4e50ee2dcee996bda", func := "polder/polderlaw07.CodeLess", spec := "codeLess", inPlace := ["internal/abi.NoEscape", "internal/bytealg.MakeNoZero"], unfollowed := true, recurses := true, apart := false }
def CodeLessSaid : Prop := codeLessRow.holds Try.pinned (OpenSpec.ofChange codeLessSpec)

/-- ITS FALSE NEIGHBOUR: 'it returns false'. Refute it at one input. -/
def codeLessWrong : ChangeSpec := { name := "codeLess", fn := fun _ => fun
  | [d1, d2, d3, d4] => { results := [.lit (.bool false)], args := [d1, d2, d3, d4] }
  | _ => none }
def CodeLessWrongFalsely : Prop := codeLessRow.holds Try.pinned (OpenSpec.ofChange codeLessWrong)

/-- 'polderlaw07.CodePar': WHATEVER THE INPUT: true; the input reads as it did. -/
def codeParSpec : ChangeSpec := { name := "codePar", fn := fun _ => fun
  | [d1, d2, d3] => { results := [.lit (.bool true)], args := [d1, d2, d3] }
  | _ => none }
def codeParRow : OpenClaim := { program := "ytefhmemmfajbfaa", sum := "8c56105ba0044ee89783639f6c611984f27b5d504cf369e4e50ee2dcee996bda", func := "polder/polderlaw07.CodePar", spec := "codePar", inPlace := ["internal/abi.NoEscape", "internal/bytealg.MakeNoZero"], unfollowed := true, recurses := true, apart := false }
def CodeParSaid : Prop := codeParRow.holds Try.pinned (OpenSpec.ofChange codeParSpec)

/-- ITS FALSE NEIGHBOUR: 'it returns false'. Refute it at one input. -/
def codeParWrong : ChangeSpec := { name := "codePar", fn := fun _ => fun
  | [d1, d2, d3] => { results := [.lit (.bool false)], args := [d1, d2, d3] }
  | _ => none }
def CodeParWrongFalsely : Prop := codeParRow.holds Try.pinned (OpenSpec.ofChange codeParWrong)

/-- 'polderlaw07.CodeBad': WHATEVER THE INPUT: true; the input reads as it did. -/
def codeBadSpec : ChangeSpec := { name := "codeBad", fn := fun _ => fun
  | [d1, d2, d3, d4, d5] => { results := [.lit (.bool true)], args := [d1, d2, d3, d4, d5] }
  | _ => none }
def codeBadRow : OpenClaim := { program := "ytefhmemmfajbfaa", sum := "8c56105ba0044ee89783639f6c611984f27b5d504cf369e4e50ee2dcee996bda", func := "polder/polderlaw07.CodeBad", spec := "codeBad", inPlace := ["internal/abi.NoEscape", "internal/bytealg.MakeNoZero"], unfollowed := true, recurses := true, apart := false }
def CodeBadSaid : Prop := codeBadRow.holds Try.pinned (OpenSpec.ofChange codeBadSpec)

/-- ITS FALSE NEIGHBOUR: 'it returns false'. Refute it at one input. -/
def codeBadWrong : ChangeSpec := { name := "codeBad", fn := fun _ => fun
  | [d1, d2, d3, d4, d5] => { results := [.lit (.bool false)], args := [d1, d2, d3, d4, d5] }
  | _ => none }
def CodeBadWrongFalsely : Prop := codeBadRow.holds Try.pinned (OpenSpec.ofChange codeBadWrong)

/-- 'polderlaw07.CodePlays': WHATEVER THE INPUT: true; the input reads as it did. -/
def codePlaysSpec : ChangeSpec := { name := "codePlays", fn := fun _ => fun
  | [d1, d2, d3, d4, d5, d6] => { results := [.lit (.bool true)], args := [d1, d2, d3, d4, d5, d6] }
  | _ => none }
def codePlaysRow : OpenClaim := { program := "ytefhmemmfajbfaa", sum := "8c56105ba0044ee89783639f6c611984f27b5d504cf369e4e50ee2dcee996bda", func := "polder/polderlaw07.CodePlays", spec := "codePlays", inPlace := ["internal/abi.NoEscape", "internal/bytealg.MakeNoZero"], unfollowed := true, recurses := true, apart := false }
def CodePlaysSaid : Prop := codePlaysRow.holds Try.pinned (OpenSpec.ofChange codePlaysSpec)

/-- ITS FALSE NEIGHBOUR: 'it returns false'. Refute it at one input. -/
def codePlaysWrong : ChangeSpec := { name := "codePlays", fn := fun _ => fun
  | [d1, d2, d3, d4, d5, d6] => { results := [.lit (.bool false)], args := [d1, d2, d3, d4, d5, d6] }
  | _ => none }
def CodePlaysWrongFalsely : Prop := codePlaysRow.holds Try.pinned (OpenSpec.ofChange codePlaysWrong)

/- THE SECOND FORM. 'bulk': how many values and letters a reading holds, each counted each time it is reached (what is shared counts as often as it is met; a slice's spare places count too). A statement '..UptoSaid' is the law's where the arguments, and the package variables that the reading takes, are together of bulk at most 1048576: NARROWER than '..Said'. Prove '..Said' where nothing that the law and all that it calls make is longer than what came in: it says more and counts as full. Else prove '..UptoSaid'. A law counts once. -/
mutual
def uptoBulk {H : Type} : DataW H → Nat
  | .lit (.string bytes) => bytes.length + 1
  | .lit _ => 1
  | .nil => 1
  | .ptr d => uptoBulk d + 1
  | .slice elems spare => uptoBulkAll elems + uptoBulkAll spare + 1
  | .agg parts => uptoBulkAll parts + 1
  | .iface _ d => uptoBulk d + 1
  | .map entries => uptoBulkEntries entries + 1
  | .held _ => 1
def uptoBulkAll {H : Type} : List (DataW H) → Nat
  | [] => 0
  | d :: r => uptoBulk d + uptoBulkAll r
def uptoBulkEntries {H : Type} : List (Lit × DataW H) → Nat
  | [] => 0
  | x :: r => uptoBulkEntry x + uptoBulkEntries r
def uptoBulkEntry {H : Type} : Lit × DataW H → Nat
  | (.string bytes, d) => bytes.length + uptoBulk d + 1
  | (_, d) => uptoBulk d + 1
 end
def uptoSmall : (H : Type) → List (DataW H) → Bool := fun _ ds => decide (uptoBulkAll ds ≤ 1048576)
def OpenSpec.upto (s : _root_.Go.ChangeSpec) : _root_.Go.OpenSpec := { _root_.Go.OpenSpec.ofChange s with cond := some uptoSmall }

/-- 'polderlaw07.CodeOne', WHERE WHAT IT READS IS OF BULK AT MOST 1048576: true; the input reads as it did. -/
def codeOneUptoRow : OpenClaim := { program := "ytefhmemmfajbfaa", sum := "8c56105ba0044ee89783639f6c611984f27b5d504cf369e4e50ee2dcee996bda", func := "polder/polderlaw07.CodeOne", spec := "codeOne", inPlace := ["internal/abi.NoEscape", "internal/bytealg.MakeNoZero"], unfollowed := true, recurses := true, apart := false, narrowed := true }
def CodeOneUptoSaid : Prop := codeOneUptoRow.holds Try.pinned (OpenSpec.upto codeOneSpec)

/-- 'polderlaw07.CodeLess', WHERE WHAT IT READS IS OF BULK AT MOST 1048576: true; the input reads as it did. -/
def codeLessUptoRow : OpenClaim := { program := "ytefhmemmfajbfaa", sum := "8c56105ba0044ee89783639f6c611984f27b5d504cf369e4e50ee2dcee996bda", func := "polder/polderlaw07.CodeLess", spec := "codeLess", inPlace := ["internal/abi.NoEscape", "internal/bytealg.MakeNoZero"], unfollowed := true, recurses := true, apart := false, narrowed := true }
def CodeLessUptoSaid : Prop := codeLessUptoRow.holds Try.pinned (OpenSpec.upto codeLessSpec)

/-- 'polderlaw07.CodePar', WHERE WHAT IT READS IS OF BULK AT MOST 1048576: true; the input reads as it did. -/
def codeParUptoRow : OpenClaim := { program := "ytefhmemmfajbfaa", sum := "8c56105ba0044ee89783639f6c611984f27b5d504cf369e4e50ee2dcee996bda", func := "polder/polderlaw07.CodePar", spec := "codePar", inPlace := ["internal/abi.NoEscape", "internal/bytealg.MakeNoZero"], unfollowed := true, recurses := true, apart := false, narrowed := true }
def CodeParUptoSaid : Prop := codeParUptoRow.holds Try.pinned (OpenSpec.upto codeParSpec)

/-- 'polderlaw07.CodeBad', WHERE WHAT IT READS IS OF BULK AT MOST 1048576: true; the input reads as it did. -/
def codeBadUptoRow : OpenClaim := { program := "ytefhmemmfajbfaa", sum := "8c56105ba0044ee89783639f6c611984f27b5d504cf369e4e50ee2dcee996bda", func := "polder/polderlaw07.CodeBad", spec := "codeBad", inPlace := ["internal/abi.NoEscape", "internal/bytealg.MakeNoZero"], unfollowed := true, recurses := true, apart := false, narrowed := true }
def CodeBadUptoSaid : Prop := codeBadUptoRow.holds Try.pinned (OpenSpec.upto codeBadSpec)

/-- 'polderlaw07.CodePlays', WHERE WHAT IT READS IS OF BULK AT MOST 1048576: true; the input reads as it did. -/
def codePlaysUptoRow : OpenClaim := { program := "ytefhmemmfajbfaa", sum := "8c56105ba0044ee89783639f6c611984f27b5d504cf369e4e50ee2dcee996bda", func := "polder/polderlaw07.CodePlays", spec := "codePlays", inPlace := ["internal/abi.NoEscape", "internal/bytealg.MakeNoZero"], unfollowed := true, recurses := true, apart := false, narrowed := true }
def CodePlaysUptoSaid : Prop := codePlaysUptoRow.holds Try.pinned (OpenSpec.upto codePlaysSpec)

end Rows
end Go.Proofs.Ytefhmemmfajbfaa
