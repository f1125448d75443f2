/-
  Contracts of package cols, second part: mirror, parity, Of.
-/
import Derived.Test.YtkmmehhddagijaaCols
namespace Go.Proofs.Ytkmmehhddagijaa
open Go.RowKit
set_option linter.unusedVariables false

/-- A column: device, sector, parity, row. -/
abbrev Col := Int × Int × Bool × Int
def colCells (c : Col) : List Value := [.int .i64 c.1, .int .i64 c.2.1, .bool c.2.2.1, .int .i64 c.2.2.2]
def colsCells (l : List Col) : List Value := l.flatMap colCells
theorem colsCells_snoc (l : List Col) (c : Col) : colsCells (l ++ [c]) = colsCells l ++ colCells c := by simp [colsCells, List.flatMap_append]
theorem colsCells_len (l : List Col) : (colsCells l).length = l.length * 4 := by
  induction l with
  | nil => rfl
  | cons c l ih =>
    have : colsCells (c :: l) = colCells c ++ colsCells l := rfl
    rw [this, List.length_append, ih, List.length_cons]
    simp [colCells]; omega

def mcol (first at_ : Int) (d i : Nat) : Col := (first + d, 16 + at_ + i, false, i)
def mirTo (first at_ : Int) (size d i : Nat) : List Col := (List.range d).flatMap (fun d => (List.range size).map (mcol first at_ d)) ++ (List.range i).map (mcol first at_ d)
def mirror (first at_ : Int) (wide size : Nat) : List Col := mirTo first at_ size wide 0
theorem mirTo_zero (first at_ : Int) (size : Nat) : mirTo first at_ size 0 0 = [] := rfl
theorem mirTo_step (first at_ : Int) (size d i : Nat) : mirTo first at_ size d (i + 1) = mirTo first at_ size d i ++ [mcol first at_ d i] := by
  simp [mirTo, List.range_succ]
theorem mirTo_row (first at_ : Int) (size d : Nat) : mirTo first at_ size (d + 1) 0 = mirTo first at_ size d size := by
  simp [mirTo, List.range_succ]
theorem mirTo_len (first at_ : Int) (size d i : Nat) : (mirTo first at_ size d i).length = d * size + i := by
  have : ∀ n : Nat, (List.map (fun _ : Nat => size) (List.range n)).sum = n * size := by
    intro n
    induction n with
    | zero => simp
    | succ n ih => rw [List.range_succ, List.map_append, List.sum_append, ih]; simp [Nat.add_mul]
  simp [mirTo, List.length_flatMap, this]

theorem Try.infoCol : (Try.prog.info? 81).map (fun i => (i.zero, i.size, i.bytes)) = some (some (.agg #[.int .i64 0, .int .i64 0, .bool false, .int .i64 0]), 4, 32) := by kernel_rfl

theorem col_new (w : World) (c : Col) (t : TypeId) : ∀ j u, (colCells c)[j]? = some u → (w.alloc (.cells #[.int .i64 c.1, .int .i64 c.2.1, .bool c.2.2.1, .int .i64 c.2.2.2] t)).cell? ((⟨w.heap.size, 0, none⟩ : Addr).add j) = some u := by
  intro j u hu
  match j, hu with
  | 0, hu => simp [colCells] at hu; subst hu; simp [Addr.add]
  | 1, hu => simp [colCells] at hu; subst hu; simp [Addr.add]
  | 2, hu => simp [colCells] at hu; subst hu; simp [Addr.add]
  | 3, hu => simp [colCells] at hu; subst hu; simp [Addr.add]
  | j + 4, hu => simp [colCells] at hu
theorem col_one (c : Col) : ∀ u ∈ colCells c, u.oneCell' = true := by
  intro u hu
  simp [colCells] at hu
  rcases hu with rfl | rfl | rfl | rfl <;> rfl

theorem mirror_any (first at_ : Int) (wide size : Nat) (w : World) (h1 : 0 ≤ first) (h2 : first ≤ 100) (h3 : 0 ≤ at_) (h4 : at_ ≤ 100000) (hw : wide ≤ 8) (hs : size ≤ 4) :
    Calls Try.prog 20 #[.int .i64 first, .int .i64 wide, .int .i64 at_, .int .i64 size] w fun e w' => ∃ v, e = .returned v ∧
      w'.ownsRow w.heap.size 81 4 v (mirror first at_ wide size).length (colsCells (mirror first at_ wide size)) ∧ Below w.heap.size w w' := by
  obtain ⟨i0, hi, hz0, hz1, hz2⟩ := info_parts Try.infoCol
  go_enter Try.func20, Try.ntmps20
  go_wp2
  go_loopw [9, 13] (fun v t wr => ∃ d : Nat, d ≤ wide ∧ t = .int .i64 d ∧ wr.ownsRow w.heap.size 81 4 v (mirTo first at_ size d 0).length (colsCells (mirTo first at_ size d 0)) ∧ Below w.heap.size w wr)
    (fun _ t _ => wide - (intOf t).toNat)
  case atStart => exact ⟨0, Nat.zero_le _, rfl, World.ownsRow_nil _ _ _ _, Below.refl _ _⟩
  case round =>
    obtain ⟨d, hd, rfl, hown, hb⟩ := hrel
    obtain ⟨wo, rfl⟩ : ∃ wo : World, wo = wr := ⟨_, rfl⟩
    by_cases hlt : d < wide
    · go_wp2
      go_loopw [9, 17] (fun v t wr => ∃ i : Nat, i ≤ size ∧ t = .int .i64 i ∧ wr.ownsRow w.heap.size 81 4 v (mirTo first at_ size d i).length (colsCells (mirTo first at_ size d i)) ∧ Below w.heap.size w wr)
        (fun _ t _ => size - (intOf t).toNat)
      case atStart => exact ⟨0, Nat.zero_le _, rfl, hown, hb⟩
      case round =>
        obtain ⟨i, hi', rfl, hown1, hb1⟩ := hrel
        clear hown hb
        by_cases hlt2 : i < size
        · have hlen := Lib.hid (mirTo_len first at_ size d i)
          have hlb : (mirTo first at_ size d i).length ≤ 64 := by
            rw [hlen.out]
            have : d * size ≤ 8 * 4 := Nat.mul_le_mul (by omega) (by omega)
            omega
          go_wp2_with (at_builtin; refine wpList_append_own _ rfl _ _ 54 rfl w.heap.size 81 i0 _ 4 32 Try.underlying54 hi hz0 hz1 hz2 rfl (by decide) _ _ _ rfl (hown1.alloc _) ⟨wr.heap.size, 0, none⟩ 1 1 (colCells (mcol first at_ d i)) rfl rfl ?c1 (col_one _) (by unfold maxLen; omega) (by omega) ?c5 ?_)
          case c1 => exact col_new _ _ _
          case c5 => have := hb1.size; simp; omega
          intro v' w1 hown' hgrow _
          rw [← colsCells_snoc, ← mirTo_step, show (mirTo first at_ size d i).length + 1 = (mirTo first at_ size d (i + 1)).length from by rw [mirTo_len, mirTo_len]; omega] at hown'
          have hb2 : Below w.heap.size w w1 := (hb1.alloc hb1.size _).grown hgrow (by have := hb1.size; simp; omega) (fun k hk => (hown1.lt k hk).1)
          clear hown1 hgrow
          go_wp2
          go_roundw
          case rel => exact ⟨i + 1, by omega, by go_num, hown', hb2⟩
          case measure => simp [intOf]; omega
        · obtain rfl : i = size := by omega
          rw [← mirTo_row] at hown1
          go_wp2
          go_roundw
          case rel => exact ⟨d + 1, by omega, by go_num, hown1, hb1⟩
          case measure => simp [intOf]; omega
    · obtain rfl : d = wide := by omega
      go_wp2
      go_ret
      exact ⟨_, rfl, hown, hb⟩
end Go.Proofs.Ytkmmehhddagijaa
