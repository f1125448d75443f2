/-
  No cell of these rows narrows 'for every input' (looked for: loops, veiled, ifaces, maps, wideKeys, modest, calm, conditions, laid).
  DERIVED. THE GIVEN ROWS OF THIS SEAT. 5 by the template 'for every input the law returns true; each argument reads behind the call as it read before'; 0 by the template 'total and deterministic' (their statements: YtblmjaenoleaaaaTotals.lean).
  GIVEN WITH THE SEED: the statements are not yours to turn. If you find one false, say at which input.
  Laid BY PROGRAM, IN A SANDBOX (cutbox-rows.mjs): the forced cells as the released guide's own fill.sh prints them over the translation c8aedc17b6d9db5d… (all of the seat's roots in one cut). By AI agents, Wed Nov 11 2026. No macro, syntax, notation, axiom, sorry.
-/
import Derived.Test.YtblmjaenoleaaaaChecked
import GoSem.Claim
import GoSem.ClaimJoined
import GoSem.ClaimMapViews
import Derived.JoinedTies
import Derived.KernelRfl
namespace Go.Proofs.Ytblmjaenoleaaaa
/- THE CELL 'sum', in the pinned program and in every row, IS THE sha256 OF THE DUMP (.gsa) THAT YtblmjaenoleaaaaProg.lean LOADS. Nothing in Lean hashes anything: it is a label: what it is worth is what the hold of that sum in a sandbox is worth. -/
noncomputable def Try.pinned : Pinned := { name := "ytblmjaenoleaaaa", sum := "c8aedc17b6d9db5d94e6f1606d6835037d2012ea3f0497893f765781b83c2e88", checked := Try.checked }
namespace Rows
def none {H : Type} : Left H := { results := [], args := [] }

/-- 'polderlaw01.LePads': WHATEVER THE INPUT: true; the input reads as it did. -/
def lePadsSpec : ChangeSpec := { name := "lePads", fn := fun _ => fun
  | [d1, d2] => { results := [.lit (.bool true)], args := [d1, d2] }
  | _ => none }
def lePadsRow : OpenClaim := { program := "ytblmjaenoleaaaa", sum := "c8aedc17b6d9db5d94e6f1606d6835037d2012ea3f0497893f765781b83c2e88", func := "polder/polderlaw01.LePads", spec := "lePads", inPlace := ["internal/abi.NoEscape", "internal/bytealg.MakeNoZero"], apart := false }
def LePadsSaid : Prop := lePadsRow.holds Try.pinned (OpenSpec.ofChange lePadsSpec)

/-- ITS FALSE NEIGHBOUR: 'it returns false'. Refute it at one input. -/
def lePadsWrong : ChangeSpec := { name := "lePads", fn := fun _ => fun
  | [d1, d2] => { results := [.lit (.bool false)], args := [d1, d2] }
  | _ => none }
def LePadsWrongFalsely : Prop := lePadsRow.holds Try.pinned (OpenSpec.ofChange lePadsWrong)

/-- 'polderlaw01.LeUnlike': WHATEVER THE INPUT: true; the input reads as it did. -/
def leUnlikeSpec : ChangeSpec := { name := "leUnlike", fn := fun _ => fun
  | [d1, d2, d3, d4] => { results := [.lit (.bool true)], args := [d1, d2, d3, d4] }
  | _ => none }
def leUnlikeRow : OpenClaim := { program := "ytblmjaenoleaaaa", sum := "c8aedc17b6d9db5d94e6f1606d6835037d2012ea3f0497893f765781b83c2e88", func := "polder/polderlaw01.LeUnlike", spec := "leUnlike", inPlace := ["internal/abi.NoEscape", "internal/bytealg.MakeNoZero"], apart := false }
def LeUnlikeSaid : Prop := leUnlikeRow.holds Try.pinned (OpenSpec.ofChange leUnlikeSpec)

/-- ITS FALSE NEIGHBOUR: 'it returns false'. Refute it at one input. -/
def leUnlikeWrong : ChangeSpec := { name := "leUnlike", fn := fun _ => fun
  | [d1, d2, d3, d4] => { results := [.lit (.bool false)], args := [d1, d2, d3, d4] }
  | _ => none }
def LeUnlikeWrongFalsely : Prop := leUnlikeRow.holds Try.pinned (OpenSpec.ofChange leUnlikeWrong)

/-- 'polderlaw01.LeLays': WHATEVER THE INPUT: true; the input reads as it did. -/
def leLaysSpec : ChangeSpec := { name := "leLays", fn := fun _ => fun
  | [d1, d2, d3, d4] => { results := [.lit (.bool true)], args := [d1, d2, d3, d4] }
  | _ => none }
def leLaysRow : OpenClaim := { program := "ytblmjaenoleaaaa", sum := "c8aedc17b6d9db5d94e6f1606d6835037d2012ea3f0497893f765781b83c2e88", func := "polder/polderlaw01.LeLays", spec := "leLays", inPlace := ["internal/abi.NoEscape", "internal/bytealg.MakeNoZero"], apart := false }
def LeLaysSaid : Prop := leLaysRow.holds Try.pinned (OpenSpec.ofChange leLaysSpec)

/-- ITS FALSE NEIGHBOUR: 'it returns false'. Refute it at one input. -/
def leLaysWrong : ChangeSpec := { name := "leLays", fn := fun _ => fun
  | [d1, d2, d3, d4] => { results := [.lit (.bool false)], args := [d1, d2, d3, d4] }
  | _ => none }
def LeLaysWrongFalsely : Prop := leLaysRow.holds Try.pinned (OpenSpec.ofChange leLaysWrong)

/-- 'polderlaw01.LeCuts': WHATEVER THE INPUT: true; the input reads as it did. -/
def leCutsSpec : ChangeSpec := { name := "leCuts", fn := fun _ => fun
  | [d1, d2] => { results := [.lit (.bool true)], args := [d1, d2] }
  | _ => none }
def leCutsRow : OpenClaim := { program := "ytblmjaenoleaaaa", sum := "c8aedc17b6d9db5d94e6f1606d6835037d2012ea3f0497893f765781b83c2e88", func := "polder/polderlaw01.LeCuts", spec := "leCuts", inPlace := ["internal/abi.NoEscape", "internal/bytealg.MakeNoZero"], apart := false }
def LeCutsSaid : Prop := leCutsRow.holds Try.pinned (OpenSpec.ofChange leCutsSpec)

/-- ITS FALSE NEIGHBOUR: 'it returns false'. Refute it at one input. -/
def leCutsWrong : ChangeSpec := { name := "leCuts", fn := fun _ => fun
  | [d1, d2] => { results := [.lit (.bool false)], args := [d1, d2] }
  | _ => none }
def LeCutsWrongFalsely : Prop := leCutsRow.holds Try.pinned (OpenSpec.ofChange leCutsWrong)

/-- 'polderlaw01.LeStays': WHATEVER THE INPUT: true; the input reads as it did. -/
def leStaysSpec : ChangeSpec := { name := "leStays", fn := fun _ => fun
  | [d1, d2] => { results := [.lit (.bool true)], args := [d1, d2] }
  | _ => none }
def leStaysRow : OpenClaim := { program := "ytblmjaenoleaaaa", sum := "c8aedc17b6d9db5d94e6f1606d6835037d2012ea3f0497893f765781b83c2e88", func := "polder/polderlaw01.LeStays", spec := "leStays", inPlace := ["internal/abi.NoEscape", "internal/bytealg.MakeNoZero"], apart := false }
def LeStaysSaid : Prop := leStaysRow.holds Try.pinned (OpenSpec.ofChange leStaysSpec)

/-- ITS FALSE NEIGHBOUR: 'it returns false'. Refute it at one input. -/
def leStaysWrong : ChangeSpec := { name := "leStays", fn := fun _ => fun
  | [d1, d2] => { results := [.lit (.bool false)], args := [d1, d2] }
  | _ => none }
def LeStaysWrongFalsely : Prop := leStaysRow.holds Try.pinned (OpenSpec.ofChange leStaysWrong)

/- THE SECOND FORM. 'bulk': how many values and letters a reading holds, each counted each time it is reached (what is shared counts as often as it is met; a slice's spare places count too). A statement '..UptoSaid' is the law's where the arguments, and the package variables that the reading takes, are together of bulk at most 1048576: NARROWER than '..Said'. Prove '..Said' where nothing that the law and all that it calls make is longer than what came in: it says more and counts as full. Else prove '..UptoSaid'. A law counts once. -/
mutual
def uptoBulk {H : Type} : DataW H → Nat
  | .lit (.string bytes) => bytes.length + 1
  | .lit _ => 1
  | .nil => 1
  | .ptr d => uptoBulk d + 1
  | .slice elems spare => uptoBulkAll elems + uptoBulkAll spare + 1
  | .agg parts => uptoBulkAll parts + 1
  | .iface _ d => uptoBulk d + 1
  | .map entries => uptoBulkEntries entries + 1
  | .held _ => 1
def uptoBulkAll {H : Type} : List (DataW H) → Nat
  | [] => 0
  | d :: r => uptoBulk d + uptoBulkAll r
def uptoBulkEntries {H : Type} : List (Lit × DataW H) → Nat
  | [] => 0
  | x :: r => uptoBulkEntry x + uptoBulkEntries r
def uptoBulkEntry {H : Type} : Lit × DataW H → Nat
  | (.string bytes, d) => bytes.length + uptoBulk d + 1
  | (_, d) => uptoBulk d + 1
 end
def uptoSmall : (H : Type) → List (DataW H) → Bool := fun _ ds => decide (uptoBulkAll ds ≤ 1048576)
def OpenSpec.upto (s : _root_.Go.ChangeSpec) : _root_.Go.OpenSpec := { _root_.Go.OpenSpec.ofChange s with cond := some uptoSmall }

/-- 'polderlaw01.LePads', WHERE WHAT IT READS IS OF BULK AT MOST 1048576: true; the input reads as it did. -/
def lePadsUptoRow : OpenClaim := { program := "ytblmjaenoleaaaa", sum := "c8aedc17b6d9db5d94e6f1606d6835037d2012ea3f0497893f765781b83c2e88", func := "polder/polderlaw01.LePads", spec := "lePads", inPlace := ["internal/abi.NoEscape", "internal/bytealg.MakeNoZero"], apart := false, narrowed := true }
def LePadsUptoSaid : Prop := lePadsUptoRow.holds Try.pinned (OpenSpec.upto lePadsSpec)

/-- 'polderlaw01.LeUnlike', WHERE WHAT IT READS IS OF BULK AT MOST 1048576: true; the input reads as it did. -/
def leUnlikeUptoRow : OpenClaim := { program := "ytblmjaenoleaaaa", sum := "c8aedc17b6d9db5d94e6f1606d6835037d2012ea3f0497893f765781b83c2e88", func := "polder/polderlaw01.LeUnlike", spec := "leUnlike", inPlace := ["internal/abi.NoEscape", "internal/bytealg.MakeNoZero"], apart := false, narrowed := true }
def LeUnlikeUptoSaid : Prop := leUnlikeUptoRow.holds Try.pinned (OpenSpec.upto leUnlikeSpec)

/-- 'polderlaw01.LeLays', WHERE WHAT IT READS IS OF BULK AT MOST 1048576: true; the input reads as it did. -/
def leLaysUptoRow : OpenClaim := { program := "ytblmjaenoleaaaa", sum := "c8aedc17b6d9db5d94e6f1606d6835037d2012ea3f0497893f765781b83c2e88", func := "polder/polderlaw01.LeLays", spec := "leLays", inPlace := ["internal/abi.NoEscape", "internal/bytealg.MakeNoZero"], apart := false, narrowed := true }
def LeLaysUptoSaid : Prop := leLaysUptoRow.holds Try.pinned (OpenSpec.upto leLaysSpec)

/-- 'polderlaw01.LeCuts', WHERE WHAT IT READS IS OF BULK AT MOST 1048576: true; the input reads as it did. -/
def leCutsUptoRow : OpenClaim := { program := "ytblmjaenoleaaaa", sum := "c8aedc17b6d9db5d94e6f1606d6835037d2012ea3f0497893f765781b83c2e88", func := "polder/polderlaw01.LeCuts", spec := "leCuts", inPlace := ["internal/abi.NoEscape", "internal/bytealg.MakeNoZero"], apart := false, narrowed := true }
def LeCutsUptoSaid : Prop := leCutsUptoRow.holds Try.pinned (OpenSpec.upto leCutsSpec)

/-- 'polderlaw01.LeStays', WHERE WHAT IT READS IS OF BULK AT MOST 1048576: true; the input reads as it did. -/
def leStaysUptoRow : OpenClaim := { program := "ytblmjaenoleaaaa", sum := "c8aedc17b6d9db5d94e6f1606d6835037d2012ea3f0497893f765781b83c2e88", func := "polder/polderlaw01.LeStays", spec := "leStays", inPlace := ["internal/abi.NoEscape", "internal/bytealg.MakeNoZero"], apart := false, narrowed := true }
def LeStaysUptoSaid : Prop := leStaysUptoRow.holds Try.pinned (OpenSpec.upto leStaysSpec)

end Rows
end Go.Proofs.Ytblmjaenoleaaaa
