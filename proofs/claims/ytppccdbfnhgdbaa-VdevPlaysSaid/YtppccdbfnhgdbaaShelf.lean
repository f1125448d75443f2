/-
  DERIVED: THE SHELF's CONTRACTS AT THIS DUMP, IN PLAIN WORDS (tools/lay-plain.mjs out of 'TryShelf.lean', which tools/lay-shelf.mjs wrote): THE SAME DECLARATIONS UNDER THE SAME NAMES: 'import', 'namespace', 'open', 'def', 'theorem' AND NOTHING ELSE: no command of the shelf's: FOR A HAND-IN. Each laying: the table of numbers ('.._ren') and one theorem, a field a fact of the dump's own or the kernel's comparison; each contract: ONE APPLICATION.
-/
import Derived.Shelf.Strings.Repeat
import Derived.Test.YtppccdbfnhgdbaaProg
namespace Go.Proofs
open Go.Shelf
def Try.lays105_ren : Go.Shelf.Ren := ⟨fun | 105 => 74 | 212 => 78 | 99 => 79 | 165 => 80 | 166 => 81 | 170 => 82 | 169 => 83 | 263 => 95 | 264 => 96 | 206 => 97 | 240 => 98 | 241 => 99 | 276 => 106 | 277 => 107 | n => n, fun | 9 => 9 | 3 => 3 | 4 => 4 | 20 => 20 | 0 => 0 | 46 => 116 | 109 => 117 | 5 => 5 | 72 => 122 | 76 => 126 | 51 => 139 | 146 => 142 | 53 => 141 | 148 => 144 | 70 => 120 | 37 => 65 | 75 => 125 | 127 => 146 | 164 => 153 | 80 => 128 | n => n, fun | n => n⟩
theorem Try.lays105 : Go.Proofs.Lays.n105 Try.prog Try.lays105_ren := {
  mixed := by kernel_rfl
  f99 := Try.func79.trans (congrArg some (by kernel_rfl))
  f105 := Try.func74.trans (congrArg some (by kernel_rfl))
  f165 := Try.func80.trans (congrArg some (by kernel_rfl))
  f166 := Try.func81.trans (congrArg some (by kernel_rfl))
  f169 := Try.func83.trans (congrArg some (by kernel_rfl))
  f170 := Try.func82.trans (congrArg some (by kernel_rfl))
  f206 := Try.func97.trans (congrArg some (by kernel_rfl))
  f212 := Try.func78.trans (congrArg some (by kernel_rfl))
  f240 := Try.func98.trans (congrArg some (by kernel_rfl))
  f241 := Try.func99.trans (congrArg some (by kernel_rfl))
  f263 := Try.func95.trans (congrArg some (by kernel_rfl))
  f264 := Try.func96.trans (congrArg some (by kernel_rfl))
  f276 := Try.func106.trans (congrArg some (by kernel_rfl))
  f277 := Try.func107.trans (congrArg some (by kernel_rfl))
  t0 := Try.underlying0
  a0 := Try.isAgg0
  z0 := Try.sizeOf0
  v0 := Try.zeroValue0
  t3 := Try.underlying3
  a3 := Try.isAgg3
  z3 := Try.sizeOf3
  v3 := Try.zeroValue3
  t4 := Try.underlying4
  a4 := Try.isAgg4
  z4 := Try.sizeOf4
  v4 := Try.zeroValue4
  t5 := Try.underlying5
  a5 := Try.isAgg5
  z5 := Try.sizeOf5
  v5 := Try.zeroValue5
  t9 := Try.underlying9
  a9 := Try.isAgg9
  z9 := Try.sizeOf9
  v9 := Try.zeroValue9
  t20 := Try.underlying20
  a20 := Try.isAgg20
  z20 := Try.sizeOf20
  v20 := Try.zeroValue20
  t37 := Try.underlying65
  a37 := Try.isAgg65
  z37 := Try.sizeOf65
  v37 := Try.zeroValue65
  t46 := Try.underlying116
  a46 := Try.isAgg116
  z46 := Try.sizeOf116
  v46 := Try.zeroValue116
  t51 := Try.underlying139
  a51 := Try.isAgg139
  z51 := Try.sizeOf139
  v51 := Try.zeroValue139
  t53 := Try.underlying141
  a53 := Try.isAgg141
  z53 := Try.sizeOf141
  v53 := Try.zeroValue141
  t70 := Try.underlying120
  a70 := Try.isAgg120
  z70 := Try.sizeOf120
  v70 := Try.zeroValue120
  t72 := Try.underlying122
  a72 := Try.isAgg122
  z72 := Try.sizeOf122
  v72 := Try.zeroValue122
  t75 := Try.underlying125
  a75 := Try.isAgg125
  z75 := Try.sizeOf125
  v75 := Try.zeroValue125
  t76 := Try.underlying126
  a76 := Try.isAgg126
  z76 := Try.sizeOf126
  v76 := Try.zeroValue126
  t109 := Try.underlying117
  a109 := Try.isAgg117
  z109 := Try.sizeOf117
  v109 := Try.zeroValue117
  t127 := Try.underlying146
  a127 := Try.isAgg146
  z127 := Try.sizeOf146
  v127 := Try.zeroValue146
  t146 := Try.underlying142
  a146 := Try.isAgg142
  z146 := Try.sizeOf142
  v146 := Try.zeroValue142
  t148 := Try.underlying144
  a148 := Try.isAgg144
  z148 := Try.sizeOf144
  v148 := Try.zeroValue144
  t164 := Try.underlying153
  a164 := Try.isAgg153
  z164 := Try.sizeOf153
  v164 := Try.zeroValue153 }
theorem Try.Builder_Extra_105 : Builder.Extra Try.prog Try.lays105_ren := {
  sizeBuilder := by kernel_rfl
  liesBuilder := by kernel_rfl
  t5 := Try.underlying5
  a5 := Try.isAgg5
  z5 := Try.sizeOf5
  v5 := Try.zeroValue5
  infoByte := by kernel_rfl
  cellsByte := by kernel_rfl
  sizeByte := by kernel_rfl
  neB5 := by decide }
open Go.RowKit Go.Lib in
/-- THE MAIN CASE: at least two copies of a string that is not empty. (LAID: no walk: one application.) -/
theorem Try.strings_Repeat_main (s : ByteArray) (c : Nat) (w : World) (hc2 : 2 ≤ c) (hc : c ≤ 9223372036854775807) (hlen : s.size * c ≤ 140737488355328) (h0 : 0 < s.size) :
    Calls Try.prog 74 #[.string s, .int .i64 c] w fun e w' => e = .returned (.string ⟨(Lib.repeatL s.data.toList c).toArray⟩) ∧ Below w.heap.size w w' := Any.strings_Repeat_main Try.lays105 Try.Builder_Extra_105 s c w hc2 hc hlen h0
open Go.RowKit Go.Lib in
theorem Try.strings_Repeat_zero (s : ByteArray) (w : World) :
    Calls Try.prog 74 #[.string s, .int .i64 0] w fun e w' => e = .returned (.string ⟨#[]⟩) ∧ w' = w := Any.strings_Repeat_zero Try.lays105 s w
open Go.RowKit Go.Lib in
theorem Try.strings_Repeat_one (s : ByteArray) (w : World) :
    Calls Try.prog 74 #[.string s, .int .i64 1] w fun e w' => e = .returned (.string s) ∧ w' = w := Any.strings_Repeat_one Try.lays105 s w
open Go.RowKit Go.Lib in
/-- Copies of the empty string. (LAID: no walk: one application.) -/
theorem Try.strings_Repeat_empty (s : ByteArray) (c : Nat) (w : World) (hc2 : 2 ≤ c) (hc : c ≤ 9223372036854775807) (h0 : s.size = 0) :
    Calls Try.prog 74 #[.string s, .int .i64 c] w fun e w' => e = .returned (.string ⟨#[]⟩) ∧ w' = w := Any.strings_Repeat_empty Try.lays105 s c w hc2 hc h0
open Go.RowKit Go.Lib in
/-- count < 0: "It panics if count is negative". (LAID: no walk: one application.) -/
theorem Try.strings_Repeat_negative (s : ByteArray) (c : Int) (w : World) (hc : c < 0) :
    Calls Try.prog 74 #[.string s, .int .i64 c] w fun e w' => e = .panicked [{ v := repeatPanic Try.lays105_ren "strings: negative Repeat count", recovered := false }] ∧ w' = w := Any.strings_Repeat_negative Try.lays105 s c w hc
open Go.RowKit Go.Lib in
/-- len(s) * count is no int: ".. or if the result of (len(s) * count) overflows". (LAID: no walk: one application.) -/
theorem Try.strings_Repeat_overflow (s : ByteArray) (c : Nat) (w : World) (hc : c ≤ 9223372036854775807) (hs : s.size ≤ 9223372036854775807) (hbig : 9223372036854775807 < s.size * c) :
    Calls Try.prog 74 #[.string s, .int .i64 c] w fun e w' => e = .panicked [{ v := repeatPanic Try.lays105_ren "strings: Repeat output length overflow", recovered := false }] ∧ w' = w := Any.strings_Repeat_overflow Try.lays105 s c w hc hs hbig
open Go.RowKit Go.Lib in
/-- **strings.Repeat: count ≥ 0, the result within one allocation: count copies of s.** (LAID: no walk: one application.) -/
theorem Try.strings_Repeat (s : ByteArray) (c : Nat) (w : World) (hc : c ≤ 9223372036854775807) (hlen : s.size * c ≤ 140737488355328) :
    Calls Try.prog 74 #[.string s, .int .i64 c] w fun e w' => e = .returned (.string ⟨(Lib.repeatL s.data.toList c).toArray⟩) ∧ Below w.heap.size w w' := Any.strings_Repeat Try.lays105 Try.Builder_Extra_105 s c w hc hlen
end Go.Proofs
