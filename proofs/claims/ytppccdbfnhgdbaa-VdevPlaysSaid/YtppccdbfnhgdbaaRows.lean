/-
  No cell of these rows narrows 'for every input' (looked for: loops, veiled, ifaces, maps, wideKeys, modest, calm, conditions, laid).
  DERIVED. THE GIVEN ROWS OF THIS SEAT. 3 by the template 'for every input the law returns true; each argument reads behind the call as it read before'; 0 by the template 'total and deterministic' (their statements: YtppccdbfnhgdbaaTotals.lean).
  GIVEN WITH THE SEED: the statements are not yours to turn. If you find one false, say at which input.
  Laid BY PROGRAM, IN A SANDBOX (cutbox-rows.mjs): the forced cells as the released guide's own fill.sh prints them over the translation 2da4c86274925e97… (all of the seat's roots in one cut). By AI agents, Wed Nov 11 2026. No macro, syntax, notation, axiom, sorry.
-/
import Derived.Test.YtppccdbfnhgdbaaChecked
import GoSem.Claim
import GoSem.ClaimJoined
import GoSem.ClaimMapViews
import Derived.JoinedTies
import Derived.KernelRfl
namespace Go.Proofs.Ytppccdbfnhgdbaa
/- THE CELL 'sum', in the pinned program and in every row, IS THE sha256 OF THE DUMP (.gsa) THAT YtppccdbfnhgdbaaProg.lean LOADS. Nothing in Lean hashes anything: it is a label: what it is worth is what the hold of that sum in a sandbox is worth. -/
noncomputable def Try.pinned : Pinned := { name := "ytppccdbfnhgdbaa", sum := "2da4c86274925e979c9b3c38b96a05d46ab478a20f08667d822eb6fa72c59b30", checked := Try.checked }
namespace Rows
def none {H : Type} : Left H := { results := [], args := [] }

/-- 'polderlaw08.VdevAway': WHATEVER THE INPUT: true; the input reads as it did. -/
def vdevAwaySpec : ChangeSpec := { name := "vdevAway", fn := fun _ => fun
  | [d1, d2, d3, d4, d5] => { results := [.lit (.bool true)], args := [d1, d2, d3, d4, d5] }
  | _ => none }
def vdevAwayRow : OpenClaim := { program := "ytppccdbfnhgdbaa", sum := "2da4c86274925e979c9b3c38b96a05d46ab478a20f08667d822eb6fa72c59b30", func := "polder/polderlaw08.VdevAway", spec := "vdevAway", inPlace := ["internal/abi.NoEscape", "internal/bytealg.MakeNoZero"], unfollowed := true, recurses := true, apart := false }
def VdevAwaySaid : Prop := vdevAwayRow.holds Try.pinned (OpenSpec.ofChange vdevAwaySpec)

/-- ITS FALSE NEIGHBOUR: 'it returns false'. Refute it at one input. -/
def vdevAwayWrong : ChangeSpec := { name := "vdevAway", fn := fun _ => fun
  | [d1, d2, d3, d4, d5] => { results := [.lit (.bool false)], args := [d1, d2, d3, d4, d5] }
  | _ => none }
def VdevAwayWrongFalsely : Prop := vdevAwayRow.holds Try.pinned (OpenSpec.ofChange vdevAwayWrong)

/-- 'polderlaw08.VdevPlays': WHATEVER THE INPUT: true; the input reads as it did. -/
def vdevPlaysSpec : ChangeSpec := { name := "vdevPlays", fn := fun _ => fun
  | [d1, d2, d3, d4, d5, d6] => { results := [.lit (.bool true)], args := [d1, d2, d3, d4, d5, d6] }
  | _ => none }
def vdevPlaysRow : OpenClaim := { program := "ytppccdbfnhgdbaa", sum := "2da4c86274925e979c9b3c38b96a05d46ab478a20f08667d822eb6fa72c59b30", func := "polder/polderlaw08.VdevPlays", spec := "vdevPlays", inPlace := ["internal/abi.NoEscape", "internal/bytealg.MakeNoZero"], unfollowed := true, recurses := true, apart := false }
def VdevPlaysSaid : Prop := vdevPlaysRow.holds Try.pinned (OpenSpec.ofChange vdevPlaysSpec)

/-- ITS FALSE NEIGHBOUR: 'it returns false'. Refute it at one input. -/
def vdevPlaysWrong : ChangeSpec := { name := "vdevPlays", fn := fun _ => fun
  | [d1, d2, d3, d4, d5, d6] => { results := [.lit (.bool false)], args := [d1, d2, d3, d4, d5, d6] }
  | _ => none }
def VdevPlaysWrongFalsely : Prop := vdevPlaysRow.holds Try.pinned (OpenSpec.ofChange vdevPlaysWrong)

/-- 'polderlaw08.VdevFlush': WHATEVER THE INPUT: true; the input reads as it did. -/
def vdevFlushSpec : ChangeSpec := { name := "vdevFlush", fn := fun _ => fun
  | [d1, d2, d3, d4] => { results := [.lit (.bool true)], args := [d1, d2, d3, d4] }
  | _ => none }
def vdevFlushRow : OpenClaim := { program := "ytppccdbfnhgdbaa", sum := "2da4c86274925e979c9b3c38b96a05d46ab478a20f08667d822eb6fa72c59b30", func := "polder/polderlaw08.VdevFlush", spec := "vdevFlush", inPlace := ["internal/abi.NoEscape", "internal/bytealg.MakeNoZero"], unfollowed := true, recurses := true, apart := false }
def VdevFlushSaid : Prop := vdevFlushRow.holds Try.pinned (OpenSpec.ofChange vdevFlushSpec)

/-- ITS FALSE NEIGHBOUR: 'it returns false'. Refute it at one input. -/
def vdevFlushWrong : ChangeSpec := { name := "vdevFlush", fn := fun _ => fun
  | [d1, d2, d3, d4] => { results := [.lit (.bool false)], args := [d1, d2, d3, d4] }
  | _ => none }
def VdevFlushWrongFalsely : Prop := vdevFlushRow.holds Try.pinned (OpenSpec.ofChange vdevFlushWrong)

/- THE SECOND FORM. 'bulk': how many values and letters a reading holds, each counted each time it is reached (what is shared counts as often as it is met; a slice's spare places count too). A statement '..UptoSaid' is the law's where the arguments, and the package variables that the reading takes, are together of bulk at most 1048576: NARROWER than '..Said'. Prove '..Said' where nothing that the law and all that it calls make is longer than what came in: it says more and counts as full. Else prove '..UptoSaid'. A law counts once. -/
mutual
def uptoBulk {H : Type} : DataW H → Nat
  | .lit (.string bytes) => bytes.length + 1
  | .lit _ => 1
  | .nil => 1
  | .ptr d => uptoBulk d + 1
  | .slice elems spare => uptoBulkAll elems + uptoBulkAll spare + 1
  | .agg parts => uptoBulkAll parts + 1
  | .iface _ d => uptoBulk d + 1
  | .map entries => uptoBulkEntries entries + 1
  | .held _ => 1
def uptoBulkAll {H : Type} : List (DataW H) → Nat
  | [] => 0
  | d :: r => uptoBulk d + uptoBulkAll r
def uptoBulkEntries {H : Type} : List (Lit × DataW H) → Nat
  | [] => 0
  | x :: r => uptoBulkEntry x + uptoBulkEntries r
def uptoBulkEntry {H : Type} : Lit × DataW H → Nat
  | (.string bytes, d) => bytes.length + uptoBulk d + 1
  | (_, d) => uptoBulk d + 1
 end
def uptoSmall : (H : Type) → List (DataW H) → Bool := fun _ ds => decide (uptoBulkAll ds ≤ 1048576)
def OpenSpec.upto (s : _root_.Go.ChangeSpec) : _root_.Go.OpenSpec := { _root_.Go.OpenSpec.ofChange s with cond := some uptoSmall }

/-- 'polderlaw08.VdevAway', WHERE WHAT IT READS IS OF BULK AT MOST 1048576: true; the input reads as it did. -/
def vdevAwayUptoRow : OpenClaim := { program := "ytppccdbfnhgdbaa", sum := "2da4c86274925e979c9b3c38b96a05d46ab478a20f08667d822eb6fa72c59b30", func := "polder/polderlaw08.VdevAway", spec := "vdevAway", inPlace := ["internal/abi.NoEscape", "internal/bytealg.MakeNoZero"], unfollowed := true, recurses := true, apart := false, narrowed := true }
def VdevAwayUptoSaid : Prop := vdevAwayUptoRow.holds Try.pinned (OpenSpec.upto vdevAwaySpec)

/-- 'polderlaw08.VdevPlays', WHERE WHAT IT READS IS OF BULK AT MOST 1048576: true; the input reads as it did. -/
def vdevPlaysUptoRow : OpenClaim := { program := "ytppccdbfnhgdbaa", sum := "2da4c86274925e979c9b3c38b96a05d46ab478a20f08667d822eb6fa72c59b30", func := "polder/polderlaw08.VdevPlays", spec := "vdevPlays", inPlace := ["internal/abi.NoEscape", "internal/bytealg.MakeNoZero"], unfollowed := true, recurses := true, apart := false, narrowed := true }
def VdevPlaysUptoSaid : Prop := vdevPlaysUptoRow.holds Try.pinned (OpenSpec.upto vdevPlaysSpec)

/-- 'polderlaw08.VdevFlush', WHERE WHAT IT READS IS OF BULK AT MOST 1048576: true; the input reads as it did. -/
def vdevFlushUptoRow : OpenClaim := { program := "ytppccdbfnhgdbaa", sum := "2da4c86274925e979c9b3c38b96a05d46ab478a20f08667d822eb6fa72c59b30", func := "polder/polderlaw08.VdevFlush", spec := "vdevFlush", inPlace := ["internal/abi.NoEscape", "internal/bytealg.MakeNoZero"], unfollowed := true, recurses := true, apart := false, narrowed := true }
def VdevFlushUptoSaid : Prop := vdevFlushUptoRow.holds Try.pinned (OpenSpec.upto vdevFlushSpec)

end Rows
end Go.Proofs.Ytppccdbfnhgdbaa
