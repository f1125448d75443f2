/-
  Contracts of package cols, fourth part: parity, Of.
-/
import Derived.Test.YtkmmehhddagijaaCols3
namespace Go.Proofs.Ytkmmehhddagijaa
open Go.RowKit
set_option linter.unusedVariables false

theorem Box.new {w : World} {k : Nat} {t : TypeId} {v : Value} (hk : k = w.heap.size) : Box (w.alloc (.cells #[v] t)) k t v := by subst hk; exact heap_alloc_new w _
theorem Box.alloc {w : World} {k : Nat} {t : TypeId} {v : Value} (h : Box w k t v) (o : Obj) : Box (w.alloc o) k t v := (Below.heap_alloc w o k h.lt).trans h

def ParSt (w0 w : World) (H : Nat) (first wide at_ : Int) (L : List Col) (v : Value) : Prop :=
  Box w H 3 (.int .i64 first) ∧ Box w (H + 1) 3 (.int .i64 wide) ∧ Box w (H + 2) 3 (.int .i64 at_) ∧ Box w (H + 3) 54 v ∧
    w.ownsRow (H + 4) 81 4 v L.length (colsCells L) ∧ Below H w0 w ∧ H + 4 ≤ w.heap.size

theorem ParSt.add {w0 w : World} {H : Nat} {first wide at_ row : Int} {L : List Col} {v : Value} (h : ParSt w0 w H first wide at_ L v) (par : Bool)
    (h1 : 0 ≤ first) (h2 : first ≤ 100) (h3 : 0 ≤ at_) (h4 : at_ ≤ 100000) (hw1 : 1 ≤ wide) (hw : wide ≤ 8) (hn : L.length ≤ 100) :
    Calls Try.prog 31 #[.int .i64 row, .bool par, .pointer (some ⟨H + 2, 0, none⟩), .pointer (some ⟨H + 3, 0, none⟩), .pointer (some ⟨H, 0, none⟩), .pointer (some ⟨H + 1, 0, none⟩)] w fun e w' =>
      e = .returned (.tuple #[]) ∧ ∃ v', ParSt w0 w' H first wide at_ (L ++ [pcol first wide at_ L.length par row]) v' := by
  obtain ⟨b0, b1, b2, b3, hown, hb, hsz⟩ := h
  refine (parity1_any (H + 4) L.length (H + 2) (H + 3) H (H + 1) first wide at_ row par v L w hsz (by omega) (by omega) (by omega) (by omega) h1 h2 h3 h4 hw1 hw hn rfl b2 b3 b0 b1 hown).mono ?_
  rintro e w' ⟨rfl, v', w1, rfl, hb1, hown'⟩
  refine ⟨rfl, v', ?_, ?_, ?_, ?_, ?_, ?_, ?_⟩
  · exact (Below.heap_setCell _ _ _ _ (by simp)).trans (b0.below hb1 (by omega))
  · exact (Below.heap_setCell _ _ _ _ (by simp)).trans (b1.below hb1 (by omega))
  · exact (Below.heap_setCell _ _ _ _ (by simp)).trans (b2.below hb1 (by omega))
  · exact one_setCell (b3.below hb1 (by omega))
  · rw [List.length_append]
    exact ownsRow_setCell_below hown' (by simp) _
  · exact (hb.trans (hb1.mono (by omega))).setCell (by simp) _
  · have := hb1.size
    simp [World.setCell]; omega

/-- The columns of a parity, the first k sectors of a block. -/
def parTo (first wide at_ : Int) : Nat → List Col
  | 0 => []
  | k + 1 =>
    (if (k : Int) % (wide - 1) == 0 then parTo first wide at_ k ++ [pcol first wide at_ (parTo first wide at_ k).length true ((k : Int) / (wide - 1))] else parTo first wide at_ k) ++
      [pcol first wide at_ (if (k : Int) % (wide - 1) == 0 then parTo first wide at_ k ++ [pcol first wide at_ (parTo first wide at_ k).length true ((k : Int) / (wide - 1))] else parTo first wide at_ k).length false ((k : Int) / (wide - 1))]

theorem parTo_len (first wide at_ : Int) (k : Nat) : (parTo first wide at_ k).length ≤ 2 * k := by
  induction k with
  | zero => simp [parTo]
  | succ k ih =>
    rw [parTo]
    split <;> simp <;> omega

theorem parity_any (first wide at_ : Int) (size : Nat) (w : World) (h1 : 0 ≤ first) (h2 : first ≤ 100) (h3 : 0 ≤ at_) (h4 : at_ ≤ 100000) (hw1 : 3 ≤ wide) (hw : wide ≤ 8) (hs : size ≤ 4) :
    Calls Try.prog 21 #[.int .i64 first, .int .i64 wide, .int .i64 at_, .int .i64 size] w fun e w' => ∃ v, e = .returned v ∧
      w'.ownsRow w.heap.size 81 4 v (parTo first wide at_ size).length (colsCells (parTo first wide at_ size)) ∧ Below w.heap.size w w' := by
  go_enter Try.func21, Try.ntmps21
  go_wp2
  go_loopw [15] (fun t wr => ∃ (k : Nat) (v : Value), k ≤ size ∧ t = .int .i64 k ∧ ParSt w wr w.heap.size first wide at_ (parTo first wide at_ k) v) (fun t _ => size - (intOf t).toNat)
  case atStart =>
    refine ⟨0, .slice none 0 0, Nat.zero_le _, rfl, ?_, ?_, ?_, ?_, World.ownsRow_nil _ _ _ _, ?_, ?_⟩
    · exact (((Box.new rfl).alloc _).alloc _).alloc _
    · exact ((Box.new (by simp)).alloc _).alloc _
    · exact (Box.new (by simp)).alloc _
    · exact Box.new (by simp)
    · exact ((((Below.refl _ _).alloc (Nat.le_refl _) _).alloc (by simp) _).alloc (by simp; omega) _).alloc (by simp; omega) _
    · simp
  case round =>
    obtain ⟨k, v, hk, rfl, hst⟩ := hrel
    have c1 := hst.2.1.cell
    have c2 := hst.2.2.2.1.cell
    have hd1 : 0 ≤ (k : Int) / (wide - 1) := Int.ediv_nonneg (by omega) (by omega)
    have hd2 : (k : Int) / (wide - 1) ≤ k := Int.ediv_le_self _ (by omega)
    have hlen := parTo_len first wide at_ k
    by_cases hlt : k < size
    · by_cases hz : ((k : Int) % (wide - 1) == 0) = true
      · have hP : Hid (parTo first wide at_ (k + 1) = (parTo first wide at_ k ++ [pcol first wide at_ (parTo first wide at_ k).length true ((k : Int) / (wide - 1))]) ++
            [pcol first wide at_ (parTo first wide at_ k ++ [pcol first wide at_ (parTo first wide at_ k).length true ((k : Int) / (wide - 1))]).length false ((k : Int) / (wide - 1))]) := by
          unfold Hid; rw [parTo, if_pos hz]
        have HS := Lib.hid hst
        clear hst
        go_wp2_with fail
        refine (HS.out.add (row := (k : Int) / (wide - 1)) true h1 h2 h3 h4 (by omega) hw (by omega)).mono ?_
        rintro e w1 ⟨rfl, v1, hst1⟩
        have HS1 := Lib.hid hst1
        clear hst1
        go_wp2_with fail
        refine (HS1.out.add (row := (k : Int) / (wide - 1)) false h1 h2 h3 h4 (by omega) hw (by simp; omega)).mono ?_
        rintro e w2 ⟨rfl, v2, hst2⟩
        have HS2 := Lib.hid hst2
        clear hst2
        go_wp2_with fail
        go_roundw
        case rel => exact ⟨k + 1, v2, by omega, by go_num, by rw [hP.out]; exact HS2.out⟩
        case measure => simp [intOf]; omega
      · have hz' : ((k : Int) % (wide - 1) == 0) = false := by simpa using hz
        clear hz
        have hP : Hid (parTo first wide at_ (k + 1) = parTo first wide at_ k ++ [pcol first wide at_ (parTo first wide at_ k).length false ((k : Int) / (wide - 1))]) := by
          unfold Hid; rw [parTo, if_neg (by simpa using hz')]
        have HS := Lib.hid hst
        clear hst
        go_wp2_with fail
        refine (HS.out.add (row := (k : Int) / (wide - 1)) false h1 h2 h3 h4 (by omega) hw (by omega)).mono ?_
        rintro e w1 ⟨rfl, v1, hst1⟩
        have HS1 := Lib.hid hst1
        clear hst1
        go_wp2_with fail
        go_roundw
        case rel => exact ⟨k + 1, v1, by omega, by go_num, by rw [hP.out]; exact HS1.out⟩
        case measure => simp [intOf]; omega
    · obtain rfl : k = size := by omega
      have HS := Lib.hid hst
      have c3 := hst.2.2.2.1.cell
      clear hst
      go_wp2_with fail
      go_ret
      obtain ⟨_, _, _, _, hown, hb, _⟩ := HS.out
      refine ⟨_, rfl, ?_, hb⟩
      exact ⟨hown.1, by
        rcases hown.2 with h | ⟨g, cap, cur, h1, h2, h3⟩
        · exact .inl h
        · exact .inr ⟨g, cap, cur, h1, by omega, h3⟩⟩

/-- The columns of a block. -/
def colsOf (gs : List (Int × Int)) (secs pg pa size : Int) : List Col :=
  if (grAt gs pg).1 == 0 then mirror (gFirst gs secs pg) pa (grAt gs pg).2.toNat size.toNat else parTo (gFirst gs secs pg) (grAt gs pg).2 pa size.toNat

end Go.Proofs.Ytkmmehhddagijaa
