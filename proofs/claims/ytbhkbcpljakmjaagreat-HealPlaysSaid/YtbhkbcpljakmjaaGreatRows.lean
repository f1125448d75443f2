/-
  No cell of these rows narrows 'for every input' (looked for: loops, veiled, ifaces, maps, wideKeys, modest, calm, conditions, laid).
  DERIVED. THE GIVEN ROWS OF THIS SEAT. 5 by the template 'for every input the law returns true; each argument reads behind the call as it read before'; 0 by the template 'total and deterministic' (their statements: YtbhkbcpljakmjaaGreatTotals.lean).
  GIVEN WITH THE SEED: the statements are not yours to turn. If you find one false, say at which input.
  Laid BY PROGRAM, IN A SANDBOX (cutbox-rows.mjs): the forced cells as the released guide's own fill.sh prints them over the translation b152966cc0dd5144… (all of the seat's roots in one cut). By AI agents, Wed Nov 11 2026. No macro, syntax, notation, axiom, sorry.
-/
import Derived.Test.YtbhkbcpljakmjaaGreatChecked
import GoSem.Claim
import GoSem.ClaimJoined
import GoSem.ClaimMapViews
import Derived.JoinedTies
import Derived.KernelRfl
namespace Go.Proofs.YtbhkbcpljakmjaaGreat
/- THE CELL 'sum', in the pinned program and in every row, IS THE sha256 OF THE DUMP (.gsa) THAT YtbhkbcpljakmjaaGreatProg.lean LOADS. Nothing in Lean hashes anything: it is a label: what it is worth is what the hold of that sum in a sandbox is worth. -/
noncomputable def Tryz.pinned : Pinned := { name := "ytbhkbcpljakmjaagreat", sum := "b152966cc0dd5144ce288bb6e325c81b38ec2d0f9943a85c44fb5df1341b7ab1", checked := Tryz.checked }
namespace Rows
def none {H : Type} : Left H := { results := [], args := [] }

/-- 'polderlaw10.HealSum': WHATEVER THE INPUT: true; the input reads as it did. -/
def healSumSpec : ChangeSpec := { name := "healSum", fn := fun _ => fun
  | [d1, d2, d3, d4, d5, d6] => { results := [.lit (.bool true)], args := [d1, d2, d3, d4, d5, d6] }
  | _ => none }
def healSumRow : OpenClaim := { program := "ytbhkbcpljakmjaagreat", sum := "b152966cc0dd5144ce288bb6e325c81b38ec2d0f9943a85c44fb5df1341b7ab1", func := "polder/polderlaw10.HealSum", spec := "healSum", inPlace := ["internal/abi.NoEscape", "internal/bytealg.MakeNoZero"], unfollowed := true, recurses := true, apart := false }
def HealSumSaid : Prop := healSumRow.holds Tryz.pinned (OpenSpec.ofChange healSumSpec)

/-- ITS FALSE NEIGHBOUR: 'it returns false'. Refute it at one input. -/
def healSumWrong : ChangeSpec := { name := "healSum", fn := fun _ => fun
  | [d1, d2, d3, d4, d5, d6] => { results := [.lit (.bool false)], args := [d1, d2, d3, d4, d5, d6] }
  | _ => none }
def HealSumWrongFalsely : Prop := healSumRow.holds Tryz.pinned (OpenSpec.ofChange healSumWrong)

/-- 'polderlaw10.HealOne': WHATEVER THE INPUT: true; the input reads as it did. -/
def healOneSpec : ChangeSpec := { name := "healOne", fn := fun _ => fun
  | [d1, d2, d3, d4, d5, d6] => { results := [.lit (.bool true)], args := [d1, d2, d3, d4, d5, d6] }
  | _ => none }
def healOneRow : OpenClaim := { program := "ytbhkbcpljakmjaagreat", sum := "b152966cc0dd5144ce288bb6e325c81b38ec2d0f9943a85c44fb5df1341b7ab1", func := "polder/polderlaw10.HealOne", spec := "healOne", inPlace := ["internal/abi.NoEscape", "internal/bytealg.MakeNoZero"], unfollowed := true, recurses := true, apart := false }
def HealOneSaid : Prop := healOneRow.holds Tryz.pinned (OpenSpec.ofChange healOneSpec)

/-- ITS FALSE NEIGHBOUR: 'it returns false'. Refute it at one input. -/
def healOneWrong : ChangeSpec := { name := "healOne", fn := fun _ => fun
  | [d1, d2, d3, d4, d5, d6] => { results := [.lit (.bool false)], args := [d1, d2, d3, d4, d5, d6] }
  | _ => none }
def HealOneWrongFalsely : Prop := healOneRow.holds Tryz.pinned (OpenSpec.ofChange healOneWrong)

/-- 'polderlaw10.HealPlays': WHATEVER THE INPUT: true; the input reads as it did. -/
def healPlaysSpec : ChangeSpec := { name := "healPlays", fn := fun _ => fun
  | [d1, d2, d3, d4, d5, d6, d7] => { results := [.lit (.bool true)], args := [d1, d2, d3, d4, d5, d6, d7] }
  | _ => none }
def healPlaysRow : OpenClaim := { program := "ytbhkbcpljakmjaagreat", sum := "b152966cc0dd5144ce288bb6e325c81b38ec2d0f9943a85c44fb5df1341b7ab1", func := "polder/polderlaw10.HealPlays", spec := "healPlays", inPlace := ["internal/abi.NoEscape", "internal/bytealg.MakeNoZero"], unfollowed := true, recurses := true, apart := false }
def HealPlaysSaid : Prop := healPlaysRow.holds Tryz.pinned (OpenSpec.ofChange healPlaysSpec)

/-- ITS FALSE NEIGHBOUR: 'it returns false'. Refute it at one input. -/
def healPlaysWrong : ChangeSpec := { name := "healPlays", fn := fun _ => fun
  | [d1, d2, d3, d4, d5, d6, d7] => { results := [.lit (.bool false)], args := [d1, d2, d3, d4, d5, d6, d7] }
  | _ => none }
def HealPlaysWrongFalsely : Prop := healPlaysRow.holds Tryz.pinned (OpenSpec.ofChange healPlaysWrong)

/-- 'polderlaw10.HealTwo': WHATEVER THE INPUT: true; the input reads as it did. -/
def healTwoSpec : ChangeSpec := { name := "healTwo", fn := fun _ => fun
  | [d1, d2, d3, d4, d5] => { results := [.lit (.bool true)], args := [d1, d2, d3, d4, d5] }
  | _ => none }
def healTwoRow : OpenClaim := { program := "ytbhkbcpljakmjaagreat", sum := "b152966cc0dd5144ce288bb6e325c81b38ec2d0f9943a85c44fb5df1341b7ab1", func := "polder/polderlaw10.HealTwo", spec := "healTwo", inPlace := ["internal/abi.NoEscape", "internal/bytealg.MakeNoZero"], unfollowed := true, recurses := true, apart := false }
def HealTwoSaid : Prop := healTwoRow.holds Tryz.pinned (OpenSpec.ofChange healTwoSpec)

/-- ITS FALSE NEIGHBOUR: 'it returns false'. Refute it at one input. -/
def healTwoWrong : ChangeSpec := { name := "healTwo", fn := fun _ => fun
  | [d1, d2, d3, d4, d5] => { results := [.lit (.bool false)], args := [d1, d2, d3, d4, d5] }
  | _ => none }
def HealTwoWrongFalsely : Prop := healTwoRow.holds Tryz.pinned (OpenSpec.ofChange healTwoWrong)

/-- 'polderlaw10.HealLook': WHATEVER THE INPUT: true; the input reads as it did. -/
def healLookSpec : ChangeSpec := { name := "healLook", fn := fun _ => fun
  | [d1, d2, d3, d4] => { results := [.lit (.bool true)], args := [d1, d2, d3, d4] }
  | _ => none }
def healLookRow : OpenClaim := { program := "ytbhkbcpljakmjaagreat", sum := "b152966cc0dd5144ce288bb6e325c81b38ec2d0f9943a85c44fb5df1341b7ab1", func := "polder/polderlaw10.HealLook", spec := "healLook", inPlace := ["internal/abi.NoEscape", "internal/bytealg.MakeNoZero"], unfollowed := true, recurses := true, apart := false }
def HealLookSaid : Prop := healLookRow.holds Tryz.pinned (OpenSpec.ofChange healLookSpec)

/-- ITS FALSE NEIGHBOUR: 'it returns false'. Refute it at one input. -/
def healLookWrong : ChangeSpec := { name := "healLook", fn := fun _ => fun
  | [d1, d2, d3, d4] => { results := [.lit (.bool false)], args := [d1, d2, d3, d4] }
  | _ => none }
def HealLookWrongFalsely : Prop := healLookRow.holds Tryz.pinned (OpenSpec.ofChange healLookWrong)

/- THE SECOND FORM. 'bulk': how many values and letters a reading holds, each counted each time it is reached (what is shared counts as often as it is met; a slice's spare places count too). A statement '..UptoSaid' is the law's where the arguments, and the package variables that the reading takes, are together of bulk at most 1048576: NARROWER than '..Said'. Prove '..Said' where nothing that the law and all that it calls make is longer than what came in: it says more and counts as full. Else prove '..UptoSaid'. A law counts once. -/
mutual
def uptoBulk {H : Type} : DataW H → Nat
  | .lit (.string bytes) => bytes.length + 1
  | .lit _ => 1
  | .nil => 1
  | .ptr d => uptoBulk d + 1
  | .slice elems spare => uptoBulkAll elems + uptoBulkAll spare + 1
  | .agg parts => uptoBulkAll parts + 1
  | .iface _ d => uptoBulk d + 1
  | .map entries => uptoBulkEntries entries + 1
  | .held _ => 1
def uptoBulkAll {H : Type} : List (DataW H) → Nat
  | [] => 0
  | d :: r => uptoBulk d + uptoBulkAll r
def uptoBulkEntries {H : Type} : List (Lit × DataW H) → Nat
  | [] => 0
  | x :: r => uptoBulkEntry x + uptoBulkEntries r
def uptoBulkEntry {H : Type} : Lit × DataW H → Nat
  | (.string bytes, d) => bytes.length + uptoBulk d + 1
  | (_, d) => uptoBulk d + 1
 end
def uptoSmall : (H : Type) → List (DataW H) → Bool := fun _ ds => decide (uptoBulkAll ds ≤ 1048576)
def OpenSpec.upto (s : _root_.Go.ChangeSpec) : _root_.Go.OpenSpec := { _root_.Go.OpenSpec.ofChange s with cond := some uptoSmall }

/-- 'polderlaw10.HealSum', WHERE WHAT IT READS IS OF BULK AT MOST 1048576: true; the input reads as it did. -/
def healSumUptoRow : OpenClaim := { program := "ytbhkbcpljakmjaagreat", sum := "b152966cc0dd5144ce288bb6e325c81b38ec2d0f9943a85c44fb5df1341b7ab1", func := "polder/polderlaw10.HealSum", spec := "healSum", inPlace := ["internal/abi.NoEscape", "internal/bytealg.MakeNoZero"], unfollowed := true, recurses := true, apart := false, narrowed := true }
def HealSumUptoSaid : Prop := healSumUptoRow.holds Tryz.pinned (OpenSpec.upto healSumSpec)

/-- 'polderlaw10.HealOne', WHERE WHAT IT READS IS OF BULK AT MOST 1048576: true; the input reads as it did. -/
def healOneUptoRow : OpenClaim := { program := "ytbhkbcpljakmjaagreat", sum := "b152966cc0dd5144ce288bb6e325c81b38ec2d0f9943a85c44fb5df1341b7ab1", func := "polder/polderlaw10.HealOne", spec := "healOne", inPlace := ["internal/abi.NoEscape", "internal/bytealg.MakeNoZero"], unfollowed := true, recurses := true, apart := false, narrowed := true }
def HealOneUptoSaid : Prop := healOneUptoRow.holds Tryz.pinned (OpenSpec.upto healOneSpec)

/-- 'polderlaw10.HealPlays', WHERE WHAT IT READS IS OF BULK AT MOST 1048576: true; the input reads as it did. -/
def healPlaysUptoRow : OpenClaim := { program := "ytbhkbcpljakmjaagreat", sum := "b152966cc0dd5144ce288bb6e325c81b38ec2d0f9943a85c44fb5df1341b7ab1", func := "polder/polderlaw10.HealPlays", spec := "healPlays", inPlace := ["internal/abi.NoEscape", "internal/bytealg.MakeNoZero"], unfollowed := true, recurses := true, apart := false, narrowed := true }
def HealPlaysUptoSaid : Prop := healPlaysUptoRow.holds Tryz.pinned (OpenSpec.upto healPlaysSpec)

/-- 'polderlaw10.HealTwo', WHERE WHAT IT READS IS OF BULK AT MOST 1048576: true; the input reads as it did. -/
def healTwoUptoRow : OpenClaim := { program := "ytbhkbcpljakmjaagreat", sum := "b152966cc0dd5144ce288bb6e325c81b38ec2d0f9943a85c44fb5df1341b7ab1", func := "polder/polderlaw10.HealTwo", spec := "healTwo", inPlace := ["internal/abi.NoEscape", "internal/bytealg.MakeNoZero"], unfollowed := true, recurses := true, apart := false, narrowed := true }
def HealTwoUptoSaid : Prop := healTwoUptoRow.holds Tryz.pinned (OpenSpec.upto healTwoSpec)

/-- 'polderlaw10.HealLook', WHERE WHAT IT READS IS OF BULK AT MOST 1048576: true; the input reads as it did. -/
def healLookUptoRow : OpenClaim := { program := "ytbhkbcpljakmjaagreat", sum := "b152966cc0dd5144ce288bb6e325c81b38ec2d0f9943a85c44fb5df1341b7ab1", func := "polder/polderlaw10.HealLook", spec := "healLook", inPlace := ["internal/abi.NoEscape", "internal/bytealg.MakeNoZero"], unfollowed := true, recurses := true, apart := false, narrowed := true }
def HealLookUptoSaid : Prop := healLookUptoRow.holds Tryz.pinned (OpenSpec.upto healLookSpec)

end Rows
end Go.Proofs.YtbhkbcpljakmjaaGreat
