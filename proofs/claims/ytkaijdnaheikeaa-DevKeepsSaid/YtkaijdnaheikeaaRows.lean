/-
  No cell of these rows narrows 'for every input' (looked for: loops, veiled, ifaces, maps, wideKeys, modest, calm, conditions, laid).
  DERIVED. THE GIVEN ROWS OF THIS SEAT. 6 by the template 'for every input the law returns true; each argument reads behind the call as it read before'; 0 by the template 'total and deterministic' (their statements: YtkaijdnaheikeaaTotals.lean).
  GIVEN WITH THE SEED: the statements are not yours to turn. If you find one false, say at which input.
  Laid BY PROGRAM, IN A SANDBOX (cutbox-rows.mjs): the forced cells as the released guide's own fill.sh prints them over the translation 2e28d4c39d0bdddf… (all of the seat's roots in one cut). By AI agents, Wed Nov 11 2026. No macro, syntax, notation, axiom, sorry.
-/
import Derived.Test.YtkaijdnaheikeaaChecked
import GoSem.Claim
import GoSem.ClaimJoined
import GoSem.ClaimMapViews
import Derived.JoinedTies
import Derived.KernelRfl
namespace Go.Proofs.Ytkaijdnaheikeaa
/- THE CELL 'sum', in the pinned program and in every row, IS THE sha256 OF THE DUMP (.gsa) THAT YtkaijdnaheikeaaProg.lean LOADS. Nothing in Lean hashes anything: it is a label: what it is worth is what the hold of that sum in a sandbox is worth. -/
noncomputable def Try.pinned : Pinned := { name := "ytkaijdnaheikeaa", sum := "2e28d4c39d0bdddf36699e4e421451a355f61692c840467900242f03055e73a4", checked := Try.checked }
namespace Rows
def none {H : Type} : Left H := { results := [], args := [] }

/-- 'polderlaw04.DevKeeps': WHATEVER THE INPUT: true; the input reads as it did. -/
def devKeepsSpec : ChangeSpec := { name := "devKeeps", fn := fun _ => fun
  | [d1, d2, d3, d4, d5] => { results := [.lit (.bool true)], args := [d1, d2, d3, d4, d5] }
  | _ => none }
def devKeepsRow : OpenClaim := { program := "ytkaijdnaheikeaa", sum := "2e28d4c39d0bdddf36699e4e421451a355f61692c840467900242f03055e73a4", func := "polder/polderlaw04.DevKeeps", spec := "devKeeps", inPlace := ["internal/abi.NoEscape", "internal/bytealg.MakeNoZero"], unfollowed := true, recurses := true, apart := false }
def DevKeepsSaid : Prop := devKeepsRow.holds Try.pinned (OpenSpec.ofChange devKeepsSpec)

/-- ITS FALSE NEIGHBOUR: 'it returns false'. Refute it at one input. -/
def devKeepsWrong : ChangeSpec := { name := "devKeeps", fn := fun _ => fun
  | [d1, d2, d3, d4, d5] => { results := [.lit (.bool false)], args := [d1, d2, d3, d4, d5] }
  | _ => none }
def DevKeepsWrongFalsely : Prop := devKeepsRow.holds Try.pinned (OpenSpec.ofChange devKeepsWrong)

/-- 'polderlaw04.DevVersions': WHATEVER THE INPUT: true; the input reads as it did. -/
def devVersionsSpec : ChangeSpec := { name := "devVersions", fn := fun _ => fun
  | [d1, d2] => { results := [.lit (.bool true)], args := [d1, d2] }
  | _ => none }
def devVersionsRow : OpenClaim := { program := "ytkaijdnaheikeaa", sum := "2e28d4c39d0bdddf36699e4e421451a355f61692c840467900242f03055e73a4", func := "polder/polderlaw04.DevVersions", spec := "devVersions", inPlace := ["internal/abi.NoEscape", "internal/bytealg.MakeNoZero"], unfollowed := true, recurses := true, apart := false }
def DevVersionsSaid : Prop := devVersionsRow.holds Try.pinned (OpenSpec.ofChange devVersionsSpec)

/-- ITS FALSE NEIGHBOUR: 'it returns false'. Refute it at one input. -/
def devVersionsWrong : ChangeSpec := { name := "devVersions", fn := fun _ => fun
  | [d1, d2] => { results := [.lit (.bool false)], args := [d1, d2] }
  | _ => none }
def DevVersionsWrongFalsely : Prop := devVersionsRow.holds Try.pinned (OpenSpec.ofChange devVersionsWrong)

/-- 'polderlaw04.DevFuse': WHATEVER THE INPUT: true; the input reads as it did. -/
def devFuseSpec : ChangeSpec := { name := "devFuse", fn := fun _ => fun
  | [d1, d2] => { results := [.lit (.bool true)], args := [d1, d2] }
  | _ => none }
def devFuseRow : OpenClaim := { program := "ytkaijdnaheikeaa", sum := "2e28d4c39d0bdddf36699e4e421451a355f61692c840467900242f03055e73a4", func := "polder/polderlaw04.DevFuse", spec := "devFuse", inPlace := ["internal/abi.NoEscape", "internal/bytealg.MakeNoZero"], unfollowed := true, recurses := true, apart := false }
def DevFuseSaid : Prop := devFuseRow.holds Try.pinned (OpenSpec.ofChange devFuseSpec)

/-- ITS FALSE NEIGHBOUR: 'it returns false'. Refute it at one input. -/
def devFuseWrong : ChangeSpec := { name := "devFuse", fn := fun _ => fun
  | [d1, d2] => { results := [.lit (.bool false)], args := [d1, d2] }
  | _ => none }
def DevFuseWrongFalsely : Prop := devFuseRow.holds Try.pinned (OpenSpec.ofChange devFuseWrong)

/-- 'polderlaw04.DevAlone': WHATEVER THE INPUT: true; the input reads as it did. -/
def devAloneSpec : ChangeSpec := { name := "devAlone", fn := fun _ => fun
  | [d1, d2, d3] => { results := [.lit (.bool true)], args := [d1, d2, d3] }
  | _ => none }
def devAloneRow : OpenClaim := { program := "ytkaijdnaheikeaa", sum := "2e28d4c39d0bdddf36699e4e421451a355f61692c840467900242f03055e73a4", func := "polder/polderlaw04.DevAlone", spec := "devAlone", inPlace := ["internal/abi.NoEscape", "internal/bytealg.MakeNoZero"], unfollowed := true, recurses := true, apart := false }
def DevAloneSaid : Prop := devAloneRow.holds Try.pinned (OpenSpec.ofChange devAloneSpec)

/-- ITS FALSE NEIGHBOUR: 'it returns false'. Refute it at one input. -/
def devAloneWrong : ChangeSpec := { name := "devAlone", fn := fun _ => fun
  | [d1, d2, d3] => { results := [.lit (.bool false)], args := [d1, d2, d3] }
  | _ => none }
def DevAloneWrongFalsely : Prop := devAloneRow.holds Try.pinned (OpenSpec.ofChange devAloneWrong)

/-- 'polderlaw04.DevFresh': WHATEVER THE INPUT: true; the input reads as it did. -/
def devFreshSpec : ChangeSpec := { name := "devFresh", fn := fun _ => fun
  | [d1, d2, d3] => { results := [.lit (.bool true)], args := [d1, d2, d3] }
  | _ => none }
def devFreshRow : OpenClaim := { program := "ytkaijdnaheikeaa", sum := "2e28d4c39d0bdddf36699e4e421451a355f61692c840467900242f03055e73a4", func := "polder/polderlaw04.DevFresh", spec := "devFresh", inPlace := ["internal/abi.NoEscape", "internal/bytealg.MakeNoZero"], unfollowed := true, recurses := true, apart := false }
def DevFreshSaid : Prop := devFreshRow.holds Try.pinned (OpenSpec.ofChange devFreshSpec)

/-- ITS FALSE NEIGHBOUR: 'it returns false'. Refute it at one input. -/
def devFreshWrong : ChangeSpec := { name := "devFresh", fn := fun _ => fun
  | [d1, d2, d3] => { results := [.lit (.bool false)], args := [d1, d2, d3] }
  | _ => none }
def DevFreshWrongFalsely : Prop := devFreshRow.holds Try.pinned (OpenSpec.ofChange devFreshWrong)

/-- 'polderlaw04.DevNil': WHATEVER THE INPUT: true; the input reads as it did. -/
def devNilSpec : ChangeSpec := { name := "devNil", fn := fun _ => fun
  | [d] => { results := [.lit (.bool true)], args := [d] }
  | _ => none }
def devNilRow : OpenClaim := { program := "ytkaijdnaheikeaa", sum := "2e28d4c39d0bdddf36699e4e421451a355f61692c840467900242f03055e73a4", func := "polder/polderlaw04.DevNil", spec := "devNil", inPlace := ["internal/abi.NoEscape", "internal/bytealg.MakeNoZero"], unfollowed := true, recurses := true, apart := false }
def DevNilSaid : Prop := devNilRow.holds Try.pinned (OpenSpec.ofChange devNilSpec)

/-- ITS FALSE NEIGHBOUR: 'it returns false'. Refute it at one input. -/
def devNilWrong : ChangeSpec := { name := "devNil", fn := fun _ => fun
  | [d] => { results := [.lit (.bool false)], args := [d] }
  | _ => none }
def DevNilWrongFalsely : Prop := devNilRow.holds Try.pinned (OpenSpec.ofChange devNilWrong)

/- THE SECOND FORM. 'bulk': how many values and letters a reading holds, each counted each time it is reached (what is shared counts as often as it is met; a slice's spare places count too). A statement '..UptoSaid' is the law's where the arguments, and the package variables that the reading takes, are together of bulk at most 1048576: NARROWER than '..Said'. Prove '..Said' where nothing that the law and all that it calls make is longer than what came in: it says more and counts as full. Else prove '..UptoSaid'. A law counts once. -/
mutual
def uptoBulk {H : Type} : DataW H → Nat
  | .lit (.string bytes) => bytes.length + 1
  | .lit _ => 1
  | .nil => 1
  | .ptr d => uptoBulk d + 1
  | .slice elems spare => uptoBulkAll elems + uptoBulkAll spare + 1
  | .agg parts => uptoBulkAll parts + 1
  | .iface _ d => uptoBulk d + 1
  | .map entries => uptoBulkEntries entries + 1
  | .held _ => 1
def uptoBulkAll {H : Type} : List (DataW H) → Nat
  | [] => 0
  | d :: r => uptoBulk d + uptoBulkAll r
def uptoBulkEntries {H : Type} : List (Lit × DataW H) → Nat
  | [] => 0
  | x :: r => uptoBulkEntry x + uptoBulkEntries r
def uptoBulkEntry {H : Type} : Lit × DataW H → Nat
  | (.string bytes, d) => bytes.length + uptoBulk d + 1
  | (_, d) => uptoBulk d + 1
 end
def uptoSmall : (H : Type) → List (DataW H) → Bool := fun _ ds => decide (uptoBulkAll ds ≤ 1048576)
def OpenSpec.upto (s : _root_.Go.ChangeSpec) : _root_.Go.OpenSpec := { _root_.Go.OpenSpec.ofChange s with cond := some uptoSmall }

/-- 'polderlaw04.DevKeeps', WHERE WHAT IT READS IS OF BULK AT MOST 1048576: true; the input reads as it did. -/
def devKeepsUptoRow : OpenClaim := { program := "ytkaijdnaheikeaa", sum := "2e28d4c39d0bdddf36699e4e421451a355f61692c840467900242f03055e73a4", func := "polder/polderlaw04.DevKeeps", spec := "devKeeps", inPlace := ["internal/abi.NoEscape", "internal/bytealg.MakeNoZero"], unfollowed := true, recurses := true, apart := false, narrowed := true }
def DevKeepsUptoSaid : Prop := devKeepsUptoRow.holds Try.pinned (OpenSpec.upto devKeepsSpec)

/-- 'polderlaw04.DevVersions', WHERE WHAT IT READS IS OF BULK AT MOST 1048576: true; the input reads as it did. -/
def devVersionsUptoRow : OpenClaim := { program := "ytkaijdnaheikeaa", sum := "2e28d4c39d0bdddf36699e4e421451a355f61692c840467900242f03055e73a4", func := "polder/polderlaw04.DevVersions", spec := "devVersions", inPlace := ["internal/abi.NoEscape", "internal/bytealg.MakeNoZero"], unfollowed := true, recurses := true, apart := false, narrowed := true }
def DevVersionsUptoSaid : Prop := devVersionsUptoRow.holds Try.pinned (OpenSpec.upto devVersionsSpec)

/-- 'polderlaw04.DevFuse', WHERE WHAT IT READS IS OF BULK AT MOST 1048576: true; the input reads as it did. -/
def devFuseUptoRow : OpenClaim := { program := "ytkaijdnaheikeaa", sum := "2e28d4c39d0bdddf36699e4e421451a355f61692c840467900242f03055e73a4", func := "polder/polderlaw04.DevFuse", spec := "devFuse", inPlace := ["internal/abi.NoEscape", "internal/bytealg.MakeNoZero"], unfollowed := true, recurses := true, apart := false, narrowed := true }
def DevFuseUptoSaid : Prop := devFuseUptoRow.holds Try.pinned (OpenSpec.upto devFuseSpec)

/-- 'polderlaw04.DevAlone', WHERE WHAT IT READS IS OF BULK AT MOST 1048576: true; the input reads as it did. -/
def devAloneUptoRow : OpenClaim := { program := "ytkaijdnaheikeaa", sum := "2e28d4c39d0bdddf36699e4e421451a355f61692c840467900242f03055e73a4", func := "polder/polderlaw04.DevAlone", spec := "devAlone", inPlace := ["internal/abi.NoEscape", "internal/bytealg.MakeNoZero"], unfollowed := true, recurses := true, apart := false, narrowed := true }
def DevAloneUptoSaid : Prop := devAloneUptoRow.holds Try.pinned (OpenSpec.upto devAloneSpec)

/-- 'polderlaw04.DevFresh', WHERE WHAT IT READS IS OF BULK AT MOST 1048576: true; the input reads as it did. -/
def devFreshUptoRow : OpenClaim := { program := "ytkaijdnaheikeaa", sum := "2e28d4c39d0bdddf36699e4e421451a355f61692c840467900242f03055e73a4", func := "polder/polderlaw04.DevFresh", spec := "devFresh", inPlace := ["internal/abi.NoEscape", "internal/bytealg.MakeNoZero"], unfollowed := true, recurses := true, apart := false, narrowed := true }
def DevFreshUptoSaid : Prop := devFreshUptoRow.holds Try.pinned (OpenSpec.upto devFreshSpec)

/-- 'polderlaw04.DevNil', WHERE WHAT IT READS IS OF BULK AT MOST 1048576: true; the input reads as it did. -/
def devNilUptoRow : OpenClaim := { program := "ytkaijdnaheikeaa", sum := "2e28d4c39d0bdddf36699e4e421451a355f61692c840467900242f03055e73a4", func := "polder/polderlaw04.DevNil", spec := "devNil", inPlace := ["internal/abi.NoEscape", "internal/bytealg.MakeNoZero"], unfollowed := true, recurses := true, apart := false, narrowed := true }
def DevNilUptoSaid : Prop := devNilUptoRow.holds Try.pinned (OpenSpec.upto devNilSpec)

end Rows
end Go.Proofs.Ytkaijdnaheikeaa
