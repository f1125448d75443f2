/-
  Contracts of package cols, third part: parity and its closure.
-/
import Derived.Test.YtkmmehhddagijaaCols2
import Derived.Deep.RegionLaw
namespace Go.Proofs.Ytkmmehhddagijaa
open Go.RowKit

def pcol (first wide at_ : Int) (k : Nat) (par : Bool) (row : Int) : Col := (first + (at_ + k) % wide, 16 + (at_ + k) / wide, par, row)

/-- Block b is one cell that holds v. -/
def Box (w : World) (b : Nat) (t : TypeId) (v : Value) : Prop := w.heap[b]? = some (.cells #[v] t (0, 0))
theorem Box.lt {w : World} {b : Nat} {t : TypeId} {v : Value} (h : Box w b t v) : b < w.heap.size := lt_of_block h
theorem Box.cell {w : World} {b : Nat} {t : TypeId} {v : Value} (h : Box w b t v) : w.cell? ⟨b, 0, none⟩ = some v := cell_of_one h
theorem Box.free {w : World} {b : Nat} {t : TypeId} {v : Value} (h : Box w b t v) : w.frozen? ⟨b, 0, none⟩ = false := free_of_one h
theorem Box.below {w w' : World} {b B : Nat} {t : TypeId} {v : Value} (h : Box w b t v) (hb : Below B w w') (hB : b < B) : Box w' b t v := (hb.block b hB).trans h

set_option maxHeartbeats 1600000 in
theorem parity1_any (base n Bat Bout Bf Bw : Nat) (first wide at_ row : Int) (par : Bool) (v : Value) (L : List Col) (w : World) (hbase : base ≤ w.heap.size)
    (_hBat : Bat < base) (hBout : Bout < base) (_hBf : Bf < base) (_hBw : Bw < base)
    (h1 : 0 ≤ first) (h2 : first ≤ 100) (h3 : 0 ≤ at_) (h4 : at_ ≤ 100000) (hw1 : 1 ≤ wide) (hw : wide ≤ 8) (hn : n ≤ 100) (hL : L.length = n)
    (bat : Box w Bat 3 (.int .i64 at_)) (bout : Box w Bout 54 v) (bf : Box w Bf 3 (.int .i64 first)) (bw : Box w Bw 3 (.int .i64 wide))
    (hown : w.ownsRow base 81 4 v n (colsCells L)) :
    Calls Try.prog 31 #[.int .i64 row, .bool par, .pointer (some ⟨Bat, 0, none⟩), .pointer (some ⟨Bout, 0, none⟩), .pointer (some ⟨Bf, 0, none⟩), .pointer (some ⟨Bw, 0, none⟩)] w fun e w' =>
      e = .returned (.tuple #[]) ∧ ∃ v' w1, w' = w1.setCell ⟨Bout, 0, none⟩ v' ∧ Below base w w1 ∧ w1.ownsRow base 81 4 v' (n + 1) (colsCells (L ++ [pcol first wide at_ n par row])) := by
  obtain ⟨i0, hi, hz0, hz1, hz2⟩ := info_parts Try.infoCol
  obtain ⟨ao, cp, rfl⟩ := own_slice hown
  have c1 := bat.cell
  have c2 := bout.cell
  have c3 := bf.cell
  have c4 := bw.cell
  have f2 := bout.free
  have l1 := bat.lt
  have l2 := bout.lt
  have l3 := bf.lt
  have l4 := bw.lt
  go_enter Try.func31, Try.ntmps31
  go_wp2_with fail
  have r1 : 0 ≤ (at_ + n) % wide := Int.emod_nonneg _ (by omega)
  have r2 : (at_ + n) % wide < wide := Int.emod_lt_of_pos _ (by omega)
  have q1 : 0 ≤ (at_ + n) / wide := Int.ediv_nonneg (by omega) (by omega)
  have q2 : (at_ + n) / wide ≤ at_ + n := Int.ediv_le_self _ (by omega)
  have e0 : ¬ wide = 0 := by omega
  have e1 : (at_ + n).tmod wide = (at_ + n) % wide := Int.tmod_eq_emod_of_nonneg (by omega)
  have e4 : (at_ + n).tdiv wide = (at_ + n) / wide := Int.tdiv_eq_ediv_of_nonneg (by omega)
  have e2 : IntKind.i64.wrap ((at_ + n) % wide) = (at_ + n) % wide := by rw [IntKind.wrap_i64]; omega
  have e5 : IntKind.i64.wrap ((at_ + n) / wide) = (at_ + n) / wide := by rw [IntKind.wrap_i64]; omega
  have e3 : IntKind.i64.wrap (first + (at_ + n) % wide) = first + (at_ + n) % wide := by rw [IntKind.wrap_i64]; omega
  have e6 : IntKind.i64.wrap (16 + (at_ + n) / wide) = 16 + (at_ + n) / wide := by rw [IntKind.wrap_i64]; omega
  have F1 := Lib.hid hbase
  have F2 := Lib.hid hBout
  have F3 := Lib.hid hn
  have F4 : Hid ((at_ + n).tmod wide = (at_ + n) % wide) := e1
  clear r1 r2 q1 q2 hbase _hBat hBout _hBf _hBw h1 h2 h3 h4 hw1 hw hn hL bat bf bw bout F4
  go_region_law (first | (refine step_append_lies _ rfl (.tmp 13) (.tmp 26) 54 rfl base 81 i0 _ 4 32 Try.underlying54 hi hz0 hz1 hz2 rfl (by decide) _ _ _ rfl (hown.alloc _) ⟨w.heap.size, 0, none⟩ 1 1 (colCells (pcol first wide at_ n par row)) rfl rfl (col_new _ _ _) (col_one _) (by decide) (by have := F3.out; unfold maxLen; omega) (by have := F3.out; omega) (by have := F1.out; simp; omega) _ rfl ?_; intro g cap w1 hown' hgrow hat hlt; have hbw : Below base w w1 := (((Below.refl base w).drew).alloc F1.out _).grown hgrow (by have := F1.out; simp; omega) (fun k hk => (hown.lt k hk).1); have g2 := (hbw.cell (p := ⟨Bout, 0, none⟩) F2.out).trans c2; have gf := (hbw.frozen (p := ⟨Bout, 0, none⟩) F2.out).trans f2; clear hown hgrow hat hlt))
  all_goals go_wp2
  all_goals go_end0
  all_goals exact ⟨rfl, _, w1, rfl, hbw, by rw [colsCells_snoc]; exact hown'⟩
end Go.Proofs.Ytkmmehhddagijaa
