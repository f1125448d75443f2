/-
  NARROWER THAN 'FOR EVERY INPUT', by the rows' own cells (each row's printed sentence says how): UberBack: laid · UberBest: laid · UberPlays: laid · UberRing: laid · UberTorn: laid.
  DERIVED. THE GIVEN ROWS OF THIS SEAT. 5 by the template 'for every input the law returns true; each argument reads behind the call as it read before'; 0 by the template 'total and deterministic' (their statements: YtlpbbjjibnbooaaGreatDoorTotals.lean).
  GIVEN WITH THE SEED: the statements are not yours to turn. If you find one false, say at which input.
  Laid BY PROGRAM, IN A SANDBOX (cutbox-rows.mjs): the forced cells as the released guide's own fill.sh prints them over the translation 2be9c730f9924861… (all of the seat's roots in one cut). By AI agents, Wed Nov 11 2026. No macro, syntax, notation, axiom, sorry.
-/
import Derived.Test.YtlpbbjjibnbooaaGreatDoorChecked
import GoSem.PinnedTables
import GoSem.Claim
import GoSem.ClaimJoined
import GoSem.ClaimMapViews
import Derived.JoinedTies
import Derived.KernelRfl
namespace Go.Proofs.YtlpbbjjibnbooaaGreatDoor
/- THE CELL 'sum', in the pinned program and in every row, IS THE sha256 OF THE DUMP (.gsa) THAT YtlpbbjjibnbooaaGreatDoorProg.lean LOADS. Nothing in Lean hashes anything: it is a label: what it is worth is what the hold of that sum in a sandbox is worth. -/
noncomputable def Tryz.pinned : Pinned := { name := "ytlpbbjjibnbooaagreatdoor", sum := "2be9c730f9924861f6038967a1b2ae98b8c09ada8480759296c7ad49b90b08ec", checked := Tryz.checked }
namespace Rows
def none {H : Type} : Left H := { results := [], args := [] }

/- WHAT THE LISTED PACKAGE-LEVEL VARIABLES READ AS WHEN THE CALL BEGINS. Each datum BY PROGRAM (the guide's laid-datum.mjs) off the statement by which the dump's own 'gosem.cut.vars' lays the variable. In a bare row this is a premise. The card (YtlpbbjjibnbooaaGreatDoorCards.lean) ties it to the program's text. -/
def laid_unicode_utf8_acceptRanges {H : Type} : DataW H := .agg [.agg [.lit (.int .u8 128), .lit (.int .u8 191)], .agg [.lit (.int .u8 160), .lit (.int .u8 191)], .agg [.lit (.int .u8 128), .lit (.int .u8 159)], .agg [.lit (.int .u8 144), .lit (.int .u8 191)], .agg [.lit (.int .u8 128), .lit (.int .u8 143)], .agg [.lit (.int .u8 0), .lit (.int .u8 0)], .agg [.lit (.int .u8 0), .lit (.int .u8 0)], .agg [.lit (.int .u8 0), .lit (.int .u8 0)], .agg [.lit (.int .u8 0), .lit (.int .u8 0)], .agg [.lit (.int .u8 0), .lit (.int .u8 0)], .agg [.lit (.int .u8 0), .lit (.int .u8 0)], .agg [.lit (.int .u8 0), .lit (.int .u8 0)], .agg [.lit (.int .u8 0), .lit (.int .u8 0)], .agg [.lit (.int .u8 0), .lit (.int .u8 0)], .agg [.lit (.int .u8 0), .lit (.int .u8 0)], .agg [.lit (.int .u8 0), .lit (.int .u8 0)]]
/-- One of Go's own tables, pinned by name: the form's constant. -/
def laid_unicode_utf8_first : DataW Unit := Go.Pinned.utf8First

/-- 'polderlaw18.UberBack': WHATEVER THE INPUT: true; the input reads as it did. -/
def uberBackSpec : ChangeSpec := { name := "uberBack", fn := fun _ => fun
  | [d1, d2, d3, d4] => { results := [.lit (.bool true)], args := [d1, d2, d3, d4] }
  | _ => none }
def uberBackRow : OpenClaim := { program := "ytlpbbjjibnbooaagreatdoor", sum := "2be9c730f9924861f6038967a1b2ae98b8c09ada8480759296c7ad49b90b08ec", func := "polder/polderlaw18.UberBack", spec := "uberBack", inPlace := ["internal/abi.NoEscape", "internal/bytealg.MakeNoZero", "internal/bytealg.IndexByteString", "internal/bytealg.IndexString"], unfollowed := true, recurses := true, named := ["unicode/utf8.first", "unicode/utf8.acceptRanges", "internal/bytealg.MaxLen"], apart := false, laid := [("unicode/utf8.acceptRanges", laid_unicode_utf8_acceptRanges), ("unicode/utf8.first", laid_unicode_utf8_first)] }
def UberBackSaid : Prop := uberBackRow.holds Tryz.pinned (OpenSpec.ofChange uberBackSpec)

/-- ITS FALSE NEIGHBOUR: 'it returns false'. Refute it at one input. -/
def uberBackWrong : ChangeSpec := { name := "uberBack", fn := fun _ => fun
  | [d1, d2, d3, d4] => { results := [.lit (.bool false)], args := [d1, d2, d3, d4] }
  | _ => none }
def UberBackWrongFalsely : Prop := uberBackRow.holds Tryz.pinned (OpenSpec.ofChange uberBackWrong)

/-- 'polderlaw18.UberBest': WHATEVER THE INPUT: true; the input reads as it did. -/
def uberBestSpec : ChangeSpec := { name := "uberBest", fn := fun _ => fun
  | [d1, d2, d3, d4] => { results := [.lit (.bool true)], args := [d1, d2, d3, d4] }
  | _ => none }
def uberBestRow : OpenClaim := { program := "ytlpbbjjibnbooaagreatdoor", sum := "2be9c730f9924861f6038967a1b2ae98b8c09ada8480759296c7ad49b90b08ec", func := "polder/polderlaw18.UberBest", spec := "uberBest", inPlace := ["internal/abi.NoEscape", "internal/bytealg.MakeNoZero", "internal/bytealg.IndexByteString", "internal/bytealg.IndexString"], unfollowed := true, recurses := true, named := ["unicode/utf8.first", "unicode/utf8.acceptRanges", "internal/bytealg.MaxLen"], apart := false, laid := [("unicode/utf8.acceptRanges", laid_unicode_utf8_acceptRanges), ("unicode/utf8.first", laid_unicode_utf8_first)] }
def UberBestSaid : Prop := uberBestRow.holds Tryz.pinned (OpenSpec.ofChange uberBestSpec)

/-- ITS FALSE NEIGHBOUR: 'it returns false'. Refute it at one input. -/
def uberBestWrong : ChangeSpec := { name := "uberBest", fn := fun _ => fun
  | [d1, d2, d3, d4] => { results := [.lit (.bool false)], args := [d1, d2, d3, d4] }
  | _ => none }
def UberBestWrongFalsely : Prop := uberBestRow.holds Tryz.pinned (OpenSpec.ofChange uberBestWrong)

/-- 'polderlaw18.UberPlays': WHATEVER THE INPUT: true; the input reads as it did. -/
def uberPlaysSpec : ChangeSpec := { name := "uberPlays", fn := fun _ => fun
  | [d1, d2, d3, d4, d5, d6, d7] => { results := [.lit (.bool true)], args := [d1, d2, d3, d4, d5, d6, d7] }
  | _ => none }
def uberPlaysRow : OpenClaim := { program := "ytlpbbjjibnbooaagreatdoor", sum := "2be9c730f9924861f6038967a1b2ae98b8c09ada8480759296c7ad49b90b08ec", func := "polder/polderlaw18.UberPlays", spec := "uberPlays", inPlace := ["internal/abi.NoEscape", "internal/bytealg.MakeNoZero", "internal/bytealg.IndexByteString", "internal/bytealg.IndexString"], unfollowed := true, recurses := true, named := ["unicode/utf8.first", "unicode/utf8.acceptRanges", "internal/bytealg.MaxLen"], apart := false, laid := [("unicode/utf8.acceptRanges", laid_unicode_utf8_acceptRanges), ("unicode/utf8.first", laid_unicode_utf8_first)] }
def UberPlaysSaid : Prop := uberPlaysRow.holds Tryz.pinned (OpenSpec.ofChange uberPlaysSpec)

/-- ITS FALSE NEIGHBOUR: 'it returns false'. Refute it at one input. -/
def uberPlaysWrong : ChangeSpec := { name := "uberPlays", fn := fun _ => fun
  | [d1, d2, d3, d4, d5, d6, d7] => { results := [.lit (.bool false)], args := [d1, d2, d3, d4, d5, d6, d7] }
  | _ => none }
def UberPlaysWrongFalsely : Prop := uberPlaysRow.holds Tryz.pinned (OpenSpec.ofChange uberPlaysWrong)

/-- 'polderlaw18.UberRing': WHATEVER THE INPUT: true; the input reads as it did. -/
def uberRingSpec : ChangeSpec := { name := "uberRing", fn := fun _ => fun
  | [d1, d2, d3] => { results := [.lit (.bool true)], args := [d1, d2, d3] }
  | _ => none }
def uberRingRow : OpenClaim := { program := "ytlpbbjjibnbooaagreatdoor", sum := "2be9c730f9924861f6038967a1b2ae98b8c09ada8480759296c7ad49b90b08ec", func := "polder/polderlaw18.UberRing", spec := "uberRing", inPlace := ["internal/abi.NoEscape", "internal/bytealg.MakeNoZero", "internal/bytealg.IndexByteString", "internal/bytealg.IndexString"], unfollowed := true, recurses := true, named := ["unicode/utf8.first", "unicode/utf8.acceptRanges", "internal/bytealg.MaxLen"], apart := false, laid := [("unicode/utf8.acceptRanges", laid_unicode_utf8_acceptRanges), ("unicode/utf8.first", laid_unicode_utf8_first)] }
def UberRingSaid : Prop := uberRingRow.holds Tryz.pinned (OpenSpec.ofChange uberRingSpec)

/-- ITS FALSE NEIGHBOUR: 'it returns false'. Refute it at one input. -/
def uberRingWrong : ChangeSpec := { name := "uberRing", fn := fun _ => fun
  | [d1, d2, d3] => { results := [.lit (.bool false)], args := [d1, d2, d3] }
  | _ => none }
def UberRingWrongFalsely : Prop := uberRingRow.holds Tryz.pinned (OpenSpec.ofChange uberRingWrong)

/-- 'polderlaw18.UberTorn': WHATEVER THE INPUT: true; the input reads as it did. -/
def uberTornSpec : ChangeSpec := { name := "uberTorn", fn := fun _ => fun
  | [d1, d2, d3] => { results := [.lit (.bool true)], args := [d1, d2, d3] }
  | _ => none }
def uberTornRow : OpenClaim := { program := "ytlpbbjjibnbooaagreatdoor", sum := "2be9c730f9924861f6038967a1b2ae98b8c09ada8480759296c7ad49b90b08ec", func := "polder/polderlaw18.UberTorn", spec := "uberTorn", inPlace := ["internal/abi.NoEscape", "internal/bytealg.MakeNoZero", "internal/bytealg.IndexByteString", "internal/bytealg.IndexString"], unfollowed := true, recurses := true, named := ["unicode/utf8.first", "unicode/utf8.acceptRanges", "internal/bytealg.MaxLen"], apart := false, laid := [("unicode/utf8.acceptRanges", laid_unicode_utf8_acceptRanges), ("unicode/utf8.first", laid_unicode_utf8_first)] }
def UberTornSaid : Prop := uberTornRow.holds Tryz.pinned (OpenSpec.ofChange uberTornSpec)

/-- ITS FALSE NEIGHBOUR: 'it returns false'. Refute it at one input. -/
def uberTornWrong : ChangeSpec := { name := "uberTorn", fn := fun _ => fun
  | [d1, d2, d3] => { results := [.lit (.bool false)], args := [d1, d2, d3] }
  | _ => none }
def UberTornWrongFalsely : Prop := uberTornRow.holds Tryz.pinned (OpenSpec.ofChange uberTornWrong)

/- THE SECOND FORM. 'bulk': how many values and letters a reading holds, each counted each time it is reached (what is shared counts as often as it is met; a slice's spare places count too). A statement '..UptoSaid' is the law's where the arguments, and the package variables that the reading takes, are together of bulk at most 1048576: NARROWER than '..Said'. Prove '..Said' where nothing that the law and all that it calls make is longer than what came in: it says more and counts as full. Else prove '..UptoSaid'. A law counts once. -/
mutual
def uptoBulk {H : Type} : DataW H → Nat
  | .lit (.string bytes) => bytes.length + 1
  | .lit _ => 1
  | .nil => 1
  | .ptr d => uptoBulk d + 1
  | .slice elems spare => uptoBulkAll elems + uptoBulkAll spare + 1
  | .agg parts => uptoBulkAll parts + 1
  | .iface _ d => uptoBulk d + 1
  | .map entries => uptoBulkEntries entries + 1
  | .held _ => 1
def uptoBulkAll {H : Type} : List (DataW H) → Nat
  | [] => 0
  | d :: r => uptoBulk d + uptoBulkAll r
def uptoBulkEntries {H : Type} : List (Lit × DataW H) → Nat
  | [] => 0
  | x :: r => uptoBulkEntry x + uptoBulkEntries r
def uptoBulkEntry {H : Type} : Lit × DataW H → Nat
  | (.string bytes, d) => bytes.length + uptoBulk d + 1
  | (_, d) => uptoBulk d + 1
 end
def uptoSmall : (H : Type) → List (DataW H) → Bool := fun _ ds => decide (uptoBulkAll ds ≤ 1048576)
def OpenSpec.upto (s : _root_.Go.ChangeSpec) : _root_.Go.OpenSpec := { _root_.Go.OpenSpec.ofChange s with cond := some uptoSmall }

/-- 'polderlaw18.UberBack', WHERE WHAT IT READS IS OF BULK AT MOST 1048576: true; the input reads as it did. -/
def uberBackUptoRow : OpenClaim := { program := "ytlpbbjjibnbooaagreatdoor", sum := "2be9c730f9924861f6038967a1b2ae98b8c09ada8480759296c7ad49b90b08ec", func := "polder/polderlaw18.UberBack", spec := "uberBack", inPlace := ["internal/abi.NoEscape", "internal/bytealg.MakeNoZero", "internal/bytealg.IndexByteString", "internal/bytealg.IndexString"], unfollowed := true, recurses := true, named := ["unicode/utf8.first", "unicode/utf8.acceptRanges", "internal/bytealg.MaxLen"], apart := false, laid := [("unicode/utf8.acceptRanges", laid_unicode_utf8_acceptRanges), ("unicode/utf8.first", laid_unicode_utf8_first)], narrowed := true }
def UberBackUptoSaid : Prop := uberBackUptoRow.holds Tryz.pinned (OpenSpec.upto uberBackSpec)

/-- 'polderlaw18.UberBest', WHERE WHAT IT READS IS OF BULK AT MOST 1048576: true; the input reads as it did. -/
def uberBestUptoRow : OpenClaim := { program := "ytlpbbjjibnbooaagreatdoor", sum := "2be9c730f9924861f6038967a1b2ae98b8c09ada8480759296c7ad49b90b08ec", func := "polder/polderlaw18.UberBest", spec := "uberBest", inPlace := ["internal/abi.NoEscape", "internal/bytealg.MakeNoZero", "internal/bytealg.IndexByteString", "internal/bytealg.IndexString"], unfollowed := true, recurses := true, named := ["unicode/utf8.first", "unicode/utf8.acceptRanges", "internal/bytealg.MaxLen"], apart := false, laid := [("unicode/utf8.acceptRanges", laid_unicode_utf8_acceptRanges), ("unicode/utf8.first", laid_unicode_utf8_first)], narrowed := true }
def UberBestUptoSaid : Prop := uberBestUptoRow.holds Tryz.pinned (OpenSpec.upto uberBestSpec)

/-- 'polderlaw18.UberPlays', WHERE WHAT IT READS IS OF BULK AT MOST 1048576: true; the input reads as it did. -/
def uberPlaysUptoRow : OpenClaim := { program := "ytlpbbjjibnbooaagreatdoor", sum := "2be9c730f9924861f6038967a1b2ae98b8c09ada8480759296c7ad49b90b08ec", func := "polder/polderlaw18.UberPlays", spec := "uberPlays", inPlace := ["internal/abi.NoEscape", "internal/bytealg.MakeNoZero", "internal/bytealg.IndexByteString", "internal/bytealg.IndexString"], unfollowed := true, recurses := true, named := ["unicode/utf8.first", "unicode/utf8.acceptRanges", "internal/bytealg.MaxLen"], apart := false, laid := [("unicode/utf8.acceptRanges", laid_unicode_utf8_acceptRanges), ("unicode/utf8.first", laid_unicode_utf8_first)], narrowed := true }
def UberPlaysUptoSaid : Prop := uberPlaysUptoRow.holds Tryz.pinned (OpenSpec.upto uberPlaysSpec)

/-- 'polderlaw18.UberRing', WHERE WHAT IT READS IS OF BULK AT MOST 1048576: true; the input reads as it did. -/
def uberRingUptoRow : OpenClaim := { program := "ytlpbbjjibnbooaagreatdoor", sum := "2be9c730f9924861f6038967a1b2ae98b8c09ada8480759296c7ad49b90b08ec", func := "polder/polderlaw18.UberRing", spec := "uberRing", inPlace := ["internal/abi.NoEscape", "internal/bytealg.MakeNoZero", "internal/bytealg.IndexByteString", "internal/bytealg.IndexString"], unfollowed := true, recurses := true, named := ["unicode/utf8.first", "unicode/utf8.acceptRanges", "internal/bytealg.MaxLen"], apart := false, laid := [("unicode/utf8.acceptRanges", laid_unicode_utf8_acceptRanges), ("unicode/utf8.first", laid_unicode_utf8_first)], narrowed := true }
def UberRingUptoSaid : Prop := uberRingUptoRow.holds Tryz.pinned (OpenSpec.upto uberRingSpec)

/-- 'polderlaw18.UberTorn', WHERE WHAT IT READS IS OF BULK AT MOST 1048576: true; the input reads as it did. -/
def uberTornUptoRow : OpenClaim := { program := "ytlpbbjjibnbooaagreatdoor", sum := "2be9c730f9924861f6038967a1b2ae98b8c09ada8480759296c7ad49b90b08ec", func := "polder/polderlaw18.UberTorn", spec := "uberTorn", inPlace := ["internal/abi.NoEscape", "internal/bytealg.MakeNoZero", "internal/bytealg.IndexByteString", "internal/bytealg.IndexString"], unfollowed := true, recurses := true, named := ["unicode/utf8.first", "unicode/utf8.acceptRanges", "internal/bytealg.MaxLen"], apart := false, laid := [("unicode/utf8.acceptRanges", laid_unicode_utf8_acceptRanges), ("unicode/utf8.first", laid_unicode_utf8_first)], narrowed := true }
def UberTornUptoSaid : Prop := uberTornUptoRow.holds Tryz.pinned (OpenSpec.upto uberTornSpec)

end Rows
end Go.Proofs.YtlpbbjjibnbooaaGreatDoor
