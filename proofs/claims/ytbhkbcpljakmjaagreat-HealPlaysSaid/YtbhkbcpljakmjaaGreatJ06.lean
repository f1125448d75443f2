/-
  Contracts of package cols, second part: mirror, parity, Of.
  Contracts of package cols, third part: parity and its closure.
  Contracts of package cols, fourth part: parity, Of.
  Contracts of package cols, fifth part: Of.
  A block as columns, as plain words. No program stands here.
  Contracts of package code: row.
-/
import Derived.Test.YtbhkbcpljakmjaaGreatJ05
import Derived.Deep.RegionLaw
import Derived.Deep.DeepCutAuto
namespace Go.Proofs.YtbhkbcpljakmjaaGreat
open Go.RowKit
set_option linter.unusedVariables false
abbrev Col := Int × Int × Bool × Int
def colCells (c : Col) : List Value := [.int .i64 c.1, .int .i64 c.2.1, .bool c.2.2.1, .int .i64 c.2.2.2]
def colsCells (l : List Col) : List Value := l.flatMap colCells
theorem colsCells_snoc (l : List Col) (c : Col) : colsCells (l ++ [c]) = colsCells l ++ colCells c := by simp [colsCells, List.flatMap_append]
theorem colsCells_len (l : List Col) : (colsCells l).length = l.length * 4 := by
 induction l with
 | nil => rfl
 | cons c l ih =>
  have : colsCells (c :: l) = colCells c ++ colsCells l := rfl
  rw [this, List.length_append, ih, List.length_cons]
  simp [colCells]; omega
def mcol (first at_ : Int) (d i : Nat) : Col := (first + d, 16 + at_ + i, false, i)
def mirTo (first at_ : Int) (size d i : Nat) : List Col := (List.range d).flatMap (fun d => (List.range size).map (mcol first at_ d)) ++ (List.range i).map (mcol first at_ d)
def mirror (first at_ : Int) (wide size : Nat) : List Col := mirTo first at_ size wide 0
theorem mirTo_step (first at_ : Int) (size d i : Nat) : mirTo first at_ size d (i + 1) = mirTo first at_ size d i ++ [mcol first at_ d i] := by
 simp [mirTo, List.range_succ]
theorem mirTo_row (first at_ : Int) (size d : Nat) : mirTo first at_ size (d + 1) 0 = mirTo first at_ size d size := by
 simp [mirTo, List.range_succ]
theorem mirTo_len (first at_ : Int) (size d i : Nat) : (mirTo first at_ size d i).length = d * size + i := by
 have : ∀ n : Nat, (List.map (fun _ : Nat => size) (List.range n)).sum = n * size := by
  intro n
  induction n with
  | zero => simp
  | succ n ih => rw [List.range_succ, List.map_append, List.sum_append, ih]; simp [Nat.add_mul]
 simp [mirTo, List.length_flatMap, this]
theorem Tryz.infoCol : (Tryz.prog.info? 71).map (fun i => (i.zero, i.size, i.bytes)) = some (some (.agg #[.int .i64 0, .int .i64 0, .bool false, .int .i64 0]), 4, 32) := by kernel_rfl
theorem col_new (w : World) (c : Col) (t : TypeId) : ∀ j u, (colCells c)[j]? = some u → (w.alloc (.cells #[.int .i64 c.1, .int .i64 c.2.1, .bool c.2.2.1, .int .i64 c.2.2.2] t)).cell? ((⟨w.heap.size, 0, none⟩ : Addr).add j) = some u := by
 intro j u hu
 match j, hu with
 | 0, hu => simp [colCells] at hu; subst hu; simp [Addr.add]
 | 1, hu => simp [colCells] at hu; subst hu; simp [Addr.add]
 | 2, hu => simp [colCells] at hu; subst hu; simp [Addr.add]
 | 3, hu => simp [colCells] at hu; subst hu; simp [Addr.add]
 | j + 4, hu => simp [colCells] at hu
theorem col_one (c : Col) : ∀ u ∈ colCells c, u.oneCell' = true := by
 intro u hu
 simp [colCells] at hu
 rcases hu with rfl | rfl | rfl | rfl <;> rfl
theorem mirror_any (first at_ : Int) (wide size : Nat) (w : World) (h1 : 0 ≤ first) (h2 : first ≤ 100) (h3 : 0 ≤ at_) (h4 : at_ ≤ 100000) (hw : wide ≤ 8) (hs : size ≤ 4) :
 Calls Tryz.prog 72 #[.int .i64 first, .int .i64 wide, .int .i64 at_, .int .i64 size] w fun e w' => ∃ v, e = .returned v ∧
  w'.ownsRow w.heap.size 71 4 v (mirror first at_ wide size).length (colsCells (mirror first at_ wide size)) ∧ Below w.heap.size w w' := by
 obtain ⟨i0, hi, hz0, hz1, hz2⟩ := info_parts Tryz.infoCol
 go_enter Tryz.func72, Tryz.ntmps72
 go_wp2
 go_loopw [9, 13] (fun v t wr => ∃ d : Nat, d ≤ wide ∧ t = .int .i64 d ∧ wr.ownsRow w.heap.size 71 4 v (mirTo first at_ size d 0).length (colsCells (mirTo first at_ size d 0)) ∧ Below w.heap.size w wr)
  (fun _ t _ => wide - (RowKit.intOf t).toNat)
 case atStart => exact ⟨0, Nat.zero_le _, rfl, World.ownsRow_nil _ _ _ _, Below.refl _ _⟩
 case round =>
  obtain ⟨d, hd, rfl, hown, hb⟩ := hrel
  obtain ⟨wo, rfl⟩ : ∃ wo : World, wo = wr := ⟨_, rfl⟩
  by_cases hlt : d < wide
  · go_wp2
    go_loopw [9, 17] (fun v t wr => ∃ i : Nat, i ≤ size ∧ t = .int .i64 i ∧ wr.ownsRow w.heap.size 71 4 v (mirTo first at_ size d i).length (colsCells (mirTo first at_ size d i)) ∧ Below w.heap.size w wr)
     (fun _ t _ => size - (RowKit.intOf t).toNat)
    case atStart => exact ⟨0, Nat.zero_le _, rfl, hown, hb⟩
    case round =>
     obtain ⟨i, hi', rfl, hown1, hb1⟩ := hrel
     clear hown hb
     by_cases hlt2 : i < size
     · have hlen := Lib.hid (mirTo_len first at_ size d i)
       have hlb : (mirTo first at_ size d i).length ≤ 64 := by
        rw [hlen.out]
        have : d * size ≤ 8 * 4 := Nat.mul_le_mul (by omega) (by omega)
        omega
       go_wp2_with (at_builtin; refine wpList_append_own _ rfl _ _ 66 rfl w.heap.size 71 i0 _ 4 32 Tryz.underlying66 hi hz0 hz1 hz2 rfl (by decide) _ _ _ rfl (hown1.alloc _) ⟨wr.heap.size, 0, none⟩ 1 1 (colCells (mcol first at_ d i)) rfl rfl ?c1 (col_one _) (by unfold maxLen; omega) (by omega) ?c5 ?_)
       case c1 => exact col_new _ _ _
       case c5 => have := hb1.size; simp; omega
       intro v' w1 hown' hgrow _
       rw [← colsCells_snoc, ← mirTo_step, show (mirTo first at_ size d i).length + 1 = (mirTo first at_ size d (i + 1)).length from by rw [mirTo_len, mirTo_len]; omega] at hown'
       have hb2 : Below w.heap.size w w1 := (hb1.alloc hb1.size _).grown hgrow (by have := hb1.size; simp; omega) (fun k hk => (hown1.lt k hk).1)
       clear hown1 hgrow
       go_wp2
       go_roundw
       case rel => exact ⟨i + 1, by omega, by go_num, hown', hb2⟩
       case measure => simp [RowKit.intOf]; omega
     · obtain rfl : i = size := by omega
       rw [← mirTo_row] at hown1
       go_wp2
       go_roundw
       case rel => exact ⟨d + 1, by omega, by go_num, hown1, hb1⟩
       case measure => simp [RowKit.intOf]; omega
  · obtain rfl : d = wide := by omega
    go_wp2
    go_ret
    exact ⟨_, rfl, hown, hb⟩
end Go.Proofs.YtbhkbcpljakmjaaGreat

namespace Go.Proofs.YtbhkbcpljakmjaaGreat
open Go.RowKit
def pcol (first wide at_ : Int) (k : Nat) (par : Bool) (row : Int) : Col := (first + (at_ + k) % wide, 16 + (at_ + k) / wide, par, row)
def Box (w : World) (b : Nat) (t : TypeId) (v : Value) : Prop := w.heap[b]? = some (.cells #[v] t (0, 0))
theorem Box.lt {w : World} {b : Nat} {t : TypeId} {v : Value} (h : Box w b t v) : b < w.heap.size := lt_of_block h
theorem Box.cell {w : World} {b : Nat} {t : TypeId} {v : Value} (h : Box w b t v) : w.cell? ⟨b, 0, none⟩ = some v := cell_of_one h
theorem Box.free {w : World} {b : Nat} {t : TypeId} {v : Value} (h : Box w b t v) : w.frozen? ⟨b, 0, none⟩ = false := free_of_one h
theorem Box.below {w w' : World} {b B : Nat} {t : TypeId} {v : Value} (h : Box w b t v) (hb : Below B w w') (hB : b < B) : Box w' b t v := (hb.block b hB).trans h
set_option maxHeartbeats 1600000 in
theorem parity1_any (base n Bat Bout Bf Bw : Nat) (first wide at_ row : Int) (par : Bool) (v : Value) (L : List Col) (w : World) (hbase : base ≤ w.heap.size)
 (_hBat : Bat < base) (hBout : Bout < base) (_hBf : Bf < base) (_hBw : Bw < base)
 (h1 : 0 ≤ first) (h2 : first ≤ 100) (h3 : 0 ≤ at_) (h4 : at_ ≤ 100000) (hw1 : 1 ≤ wide) (hw : wide ≤ 8) (hn : n ≤ 100) (hL : L.length = n)
 (bat : Box w Bat 3 (.int .i64 at_)) (bout : Box w Bout 66 v) (bf : Box w Bf 3 (.int .i64 first)) (bw : Box w Bw 3 (.int .i64 wide))
 (hown : w.ownsRow base 71 4 v n (colsCells L)) :
 Calls Tryz.prog 105 #[.int .i64 row, .bool par, .pointer (some ⟨Bat, 0, none⟩), .pointer (some ⟨Bout, 0, none⟩), .pointer (some ⟨Bf, 0, none⟩), .pointer (some ⟨Bw, 0, none⟩)] w fun e w' =>
  e = .returned (.tuple #[]) ∧ ∃ v' w1, w' = w1.setCell ⟨Bout, 0, none⟩ v' ∧ Below base w w1 ∧ w1.ownsRow base 71 4 v' (n + 1) (colsCells (L ++ [pcol first wide at_ n par row])) := by
 obtain ⟨i0, hi, hz0, hz1, hz2⟩ := info_parts Tryz.infoCol
 obtain ⟨ao, cp, rfl⟩ := own_slice hown
 have c1 := bat.cell
 have c2 := bout.cell
 have c3 := bf.cell
 have c4 := bw.cell
 have f2 := bout.free
 have l1 := bat.lt
 have l2 := bout.lt
 have l3 := bf.lt
 have l4 := bw.lt
 go_enter Tryz.func105, Tryz.ntmps105
 go_wp2_with fail
 have r1 : 0 ≤ (at_ + n) % wide := Int.emod_nonneg _ (by omega)
 have r2 : (at_ + n) % wide < wide := Int.emod_lt_of_pos _ (by omega)
 have q1 : 0 ≤ (at_ + n) / wide := Int.ediv_nonneg (by omega) (by omega)
 have q2 : (at_ + n) / wide ≤ at_ + n := Int.ediv_le_self _ (by omega)
 have e0 : ¬ wide = 0 := by omega
 have e1 : (at_ + n).tmod wide = (at_ + n) % wide := Int.tmod_eq_emod_of_nonneg (by omega)
 have e4 : (at_ + n).tdiv wide = (at_ + n) / wide := Int.tdiv_eq_ediv_of_nonneg (by omega)
 have e2 : IntKind.i64.wrap ((at_ + n) % wide) = (at_ + n) % wide := by rw [IntKind.wrap_i64]; omega
 have e5 : IntKind.i64.wrap ((at_ + n) / wide) = (at_ + n) / wide := by rw [IntKind.wrap_i64]; omega
 have e3 : IntKind.i64.wrap (first + (at_ + n) % wide) = first + (at_ + n) % wide := by rw [IntKind.wrap_i64]; omega
 have e6 : IntKind.i64.wrap (16 + (at_ + n) / wide) = 16 + (at_ + n) / wide := by rw [IntKind.wrap_i64]; omega
 have F1 := Lib.hid hbase
 have F2 := Lib.hid hBout
 have F3 := Lib.hid hn
 have F4 : Hid ((at_ + n).tmod wide = (at_ + n) % wide) := e1
 clear r1 r2 q1 q2 hbase _hBat hBout _hBf _hBw h1 h2 h3 h4 hw1 hw hn hL bat bf bw bout F4
 go_region_law (first | (refine step_append_lies _ rfl (.tmp 13) (.tmp 26) 66 rfl base 71 i0 _ 4 32 Tryz.underlying66 hi hz0 hz1 hz2 rfl (by decide) _ _ _ rfl (hown.alloc _) ⟨w.heap.size, 0, none⟩ 1 1 (colCells (pcol first wide at_ n par row)) rfl rfl (col_new _ _ _) (col_one _) (by decide) (by have := F3.out; unfold maxLen; omega) (by have := F3.out; omega) (by have := F1.out; simp; omega) _ rfl ?_; intro g cap w1 hown' hgrow hat hlt; have hbw : Below base w w1 := (((Below.refl base w).drew).alloc F1.out _).grown hgrow (by have := F1.out; simp; omega) (fun k hk => (hown.lt k hk).1); have g2 := (hbw.cell (p := ⟨Bout, 0, none⟩) F2.out).trans c2; have gf := (hbw.frozen (p := ⟨Bout, 0, none⟩) F2.out).trans f2; clear hown hgrow hat hlt))
 all_goals go_wp2
 all_goals go_end0
 all_goals exact ⟨rfl, _, w1, rfl, hbw, by rw [colsCells_snoc]; exact hown'⟩
end Go.Proofs.YtbhkbcpljakmjaaGreat

namespace Go.Proofs.YtbhkbcpljakmjaaGreat
open Go.RowKit
set_option linter.unusedVariables false
theorem Box.new {w : World} {k : Nat} {t : TypeId} {v : Value} (hk : k = w.heap.size) : Box (w.alloc (.cells #[v] t)) k t v := by subst hk; exact heap_alloc_new w _
theorem Box.alloc {w : World} {k : Nat} {t : TypeId} {v : Value} (h : Box w k t v) (o : Obj) : Box (w.alloc o) k t v := (Below.heap_alloc w o k h.lt).trans h
def ParSt (w0 w : World) (H : Nat) (first wide at_ : Int) (L : List Col) (v : Value) : Prop :=
 Box w H 3 (.int .i64 first) ∧ Box w (H + 1) 3 (.int .i64 wide) ∧ Box w (H + 2) 3 (.int .i64 at_) ∧ Box w (H + 3) 66 v ∧
  w.ownsRow (H + 4) 71 4 v L.length (colsCells L) ∧ Below H w0 w ∧ H + 4 ≤ w.heap.size
theorem ParSt.add {w0 w : World} {H : Nat} {first wide at_ row : Int} {L : List Col} {v : Value} (h : ParSt w0 w H first wide at_ L v) (par : Bool)
 (h1 : 0 ≤ first) (h2 : first ≤ 100) (h3 : 0 ≤ at_) (h4 : at_ ≤ 100000) (hw1 : 1 ≤ wide) (hw : wide ≤ 8) (hn : L.length ≤ 100) :
 Calls Tryz.prog 105 #[.int .i64 row, .bool par, .pointer (some ⟨H + 2, 0, none⟩), .pointer (some ⟨H + 3, 0, none⟩), .pointer (some ⟨H, 0, none⟩), .pointer (some ⟨H + 1, 0, none⟩)] w fun e w' =>
  e = .returned (.tuple #[]) ∧ ∃ v', ParSt w0 w' H first wide at_ (L ++ [pcol first wide at_ L.length par row]) v' := by
 obtain ⟨b0, b1, b2, b3, hown, hb, hsz⟩ := h
 refine (parity1_any (H + 4) L.length (H + 2) (H + 3) H (H + 1) first wide at_ row par v L w hsz (by omega) (by omega) (by omega) (by omega) h1 h2 h3 h4 hw1 hw hn rfl b2 b3 b0 b1 hown).mono ?_
 rintro e w' ⟨rfl, v', w1, rfl, hb1, hown'⟩
 refine ⟨rfl, v', ?_, ?_, ?_, ?_, ?_, ?_, ?_⟩
 · exact (Below.heap_setCell _ _ _ _ (by simp)).trans (b0.below hb1 (by omega))
 · exact (Below.heap_setCell _ _ _ _ (by simp)).trans (b1.below hb1 (by omega))
 · exact (Below.heap_setCell _ _ _ _ (by simp)).trans (b2.below hb1 (by omega))
 · exact one_setCell (b3.below hb1 (by omega))
 · rw [List.length_append]
   exact ownsRow_setCell_below hown' (by simp) _
 · exact (hb.trans (hb1.mono (by omega))).setCell (by simp) _
 · have := hb1.size
   simp [World.setCell]; omega
def parTo (first wide at_ : Int) : Nat → List Col
 | 0 => []
 | k + 1 =>
  (if (k : Int) % (wide - 1) == 0 then parTo first wide at_ k ++ [pcol first wide at_ (parTo first wide at_ k).length true ((k : Int) / (wide - 1))] else parTo first wide at_ k) ++
    [pcol first wide at_ (if (k : Int) % (wide - 1) == 0 then parTo first wide at_ k ++ [pcol first wide at_ (parTo first wide at_ k).length true ((k : Int) / (wide - 1))] else parTo first wide at_ k).length false ((k : Int) / (wide - 1))]
theorem parTo_len (first wide at_ : Int) (k : Nat) : (parTo first wide at_ k).length ≤ 2 * k := by
 induction k with
 | zero => simp [parTo]
 | succ k ih =>
  rw [parTo]
  split <;> simp <;> omega
theorem parity_any (first wide at_ : Int) (size : Nat) (w : World) (h1 : 0 ≤ first) (h2 : first ≤ 100) (h3 : 0 ≤ at_) (h4 : at_ ≤ 100000) (hw1 : 3 ≤ wide) (hw : wide ≤ 8) (hs : size ≤ 4) :
 Calls Tryz.prog 73 #[.int .i64 first, .int .i64 wide, .int .i64 at_, .int .i64 size] w fun e w' => ∃ v, e = .returned v ∧
  w'.ownsRow w.heap.size 71 4 v (parTo first wide at_ size).length (colsCells (parTo first wide at_ size)) ∧ Below w.heap.size w w' := by
 go_enter Tryz.func73, Tryz.ntmps73
 go_wp2
 go_loopw [15] (fun t wr => ∃ (k : Nat) (v : Value), k ≤ size ∧ t = .int .i64 k ∧ ParSt w wr w.heap.size first wide at_ (parTo first wide at_ k) v) (fun t _ => size - (RowKit.intOf t).toNat)
 case atStart =>
  refine ⟨0, .slice none 0 0, Nat.zero_le _, rfl, ?_, ?_, ?_, ?_, World.ownsRow_nil _ _ _ _, ?_, ?_⟩
  · exact (((Box.new rfl).alloc _).alloc _).alloc _
  · exact ((Box.new (by simp)).alloc _).alloc _
  · exact (Box.new (by simp)).alloc _
  · exact Box.new (by simp)
  · exact ((((Below.refl _ _).alloc (Nat.le_refl _) _).alloc (by simp) _).alloc (by simp; omega) _).alloc (by simp; omega) _
  · simp
 case round =>
  obtain ⟨k, v, hk, rfl, hst⟩ := hrel
  have c1 := hst.2.1.cell
  have c2 := hst.2.2.2.1.cell
  have hd1 : 0 ≤ (k : Int) / (wide - 1) := Int.ediv_nonneg (by omega) (by omega)
  have hd2 : (k : Int) / (wide - 1) ≤ k := Int.ediv_le_self _ (by omega)
  have hlen := parTo_len first wide at_ k
  by_cases hlt : k < size
  · by_cases hz : ((k : Int) % (wide - 1) == 0) = true
    · have hP : Hid (parTo first wide at_ (k + 1) = (parTo first wide at_ k ++ [pcol first wide at_ (parTo first wide at_ k).length true ((k : Int) / (wide - 1))]) ++
       [pcol first wide at_ (parTo first wide at_ k ++ [pcol first wide at_ (parTo first wide at_ k).length true ((k : Int) / (wide - 1))]).length false ((k : Int) / (wide - 1))]) := by
       unfold Hid; rw [parTo, if_pos hz]
      have HS := Lib.hid hst
      clear hst
      go_wp2_with fail
      refine (HS.out.add (row := (k : Int) / (wide - 1)) true h1 h2 h3 h4 (by omega) hw (by omega)).mono ?_
      rintro e w1 ⟨rfl, v1, hst1⟩
      have HS1 := Lib.hid hst1
      clear hst1
      go_wp2_with fail
      refine (HS1.out.add (row := (k : Int) / (wide - 1)) false h1 h2 h3 h4 (by omega) hw (by simp; omega)).mono ?_
      rintro e w2 ⟨rfl, v2, hst2⟩
      have HS2 := Lib.hid hst2
      clear hst2
      go_wp2_with fail
      go_roundw
      case rel => exact ⟨k + 1, v2, by omega, by go_num, by rw [hP.out]; exact HS2.out⟩
      case measure => simp [RowKit.intOf]; omega
    · have hz' : ((k : Int) % (wide - 1) == 0) = false := by simpa using hz
      clear hz
      have hP : Hid (parTo first wide at_ (k + 1) = parTo first wide at_ k ++ [pcol first wide at_ (parTo first wide at_ k).length false ((k : Int) / (wide - 1))]) := by
       unfold Hid; rw [parTo, if_neg (by simpa using hz')]
      have HS := Lib.hid hst
      clear hst
      go_wp2_with fail
      refine (HS.out.add (row := (k : Int) / (wide - 1)) false h1 h2 h3 h4 (by omega) hw (by omega)).mono ?_
      rintro e w1 ⟨rfl, v1, hst1⟩
      have HS1 := Lib.hid hst1
      clear hst1
      go_wp2_with fail
      go_roundw
      case rel => exact ⟨k + 1, v1, by omega, by go_num, by rw [hP.out]; exact HS1.out⟩
      case measure => simp [RowKit.intOf]; omega
  · obtain rfl : k = size := by omega
    have HS := Lib.hid hst
    have c3 := hst.2.2.2.1.cell
    clear hst
    go_wp2_with fail
    go_ret
    obtain ⟨_, _, _, _, hown, hb, _⟩ := HS.out
    refine ⟨_, rfl, ?_, hb⟩
    exact ⟨hown.1, by
     rcases hown.2 with h | ⟨g, cap, cur, h1, h2, h3⟩
     · exact .inl h
     · exact .inr ⟨g, cap, cur, h1, by omega, h3⟩⟩
def colsOf (gs : List (Int × Int)) (secs pg pa size : Int) : List Col :=
 if (grAt gs pg).1 == 0 then mirror (gFirst gs secs pg) pa (grAt gs pg).2.toNat size.toNat else parTo (gFirst gs secs pg) (grAt gs pg).2 pa size.toNat
end Go.Proofs.YtbhkbcpljakmjaaGreat

namespace Go.Proofs.YtbhkbcpljakmjaaGreat
open Go.RowKit
set_option linter.unusedVariables false
theorem keep_realloc {W w : World} {o o' : Obj} (h : Below w.heap.size w (W.alloc o)) (hB : w.heap.size + 2 ≤ (W.alloc o).heap.size) : Below w.heap.size w (W.alloc o') :=
 ⟨h.os, h.tape, h.output, by simp at hB ⊢; omega, fun k hk => by
   have h1 := h.block k hk
   have hk' : k < W.heap.size := by simp at hB; omega
   rw [Below.heap_alloc W o k hk'] at h1
   rw [Below.heap_alloc W o' k hk']
   exact h1⟩
theorem far2 {W : World} {g b k : Nat} {v x y : Value} (h : W.cell? ⟨b, k, none⟩ = some v) (hb : b ≠ g) : ((W.setCell ⟨g, 0, none⟩ x).setCell ⟨g, 1, none⟩ y).cell? ⟨b, k, none⟩ = some v := by
 rw [World.cell?_setCell_other _ _ _ _ (fun e => hb (by injection e with e; exact e.symm)), World.cell?_setCell_other _ _ _ _ (fun e => hb (by injection e with e; exact e.symm))]
 exact h
theorem own_mono {w : World} {base base' : Nat} {e : TypeId} {size : Nat} {v : Value} {n : Nat} {xs : List Value} (h : w.ownsRow base e size v n xs) (hb : base' ≤ base) : w.ownsRow base' e size v n xs :=
 ⟨h.1, by
   rcases h.2 with h | ⟨g, cap, cur, h1, h2, h3⟩
   · exact .inl h
   · exact .inr ⟨g, cap, cur, h1, by omega, h3⟩⟩
theorem set2 {W : World} {g : Nat} {a b x y : Value} (h0 : W.cell? ⟨g, 0, none⟩ = some a) (h1 : W.cell? ⟨g, 1, none⟩ = some b) :
 ((W.setCell ⟨g, 0, none⟩ x).setCell ⟨g, 1, none⟩ y).cell? ⟨g, 0, none⟩ = some x ∧ ((W.setCell ⟨g, 0, none⟩ x).setCell ⟨g, 1, none⟩ y).cell? ⟨g, 1, none⟩ = some y := by
 constructor
 · rw [World.cell?_setCell_other _ _ _ _ (by simp)]
   exact World.cell?_setCell_same _ _ _ h0
 · exact World.cell?_setCell_same _ _ _ ((World.cell?_setCell_other _ _ _ _ (by simp)).trans h1)
theorem ret2i {k : IntKind} {v : Value} {a b : Int} (h : a = b) : Ending.returned (.tuple #[v, .int k a]) = .returned (.tuple #[v, .int k b]) := by rw [h]
theorem recell {W : World} {o o2 : Obj} {b k : Nat} {v : Value} (h : (W.alloc o).cell? ⟨b, k, none⟩ = some v) (hb : b < W.heap.size) : (W.alloc o2).cell? ⟨b, k, none⟩ = some v := by
 rw [World.cell?_alloc_lt W o2 _ hb, ← World.cell?_alloc_lt W o _ hb]; exact h
theorem cMay_true {gs : List (Int × Int)} {secs pg pa size : Int} (h : cMay gs secs pg pa size = true) :
 gHas gs secs pg = true ∧ 1 ≤ size ∧ size ≤ 4 ∧ 0 ≤ pa ∧ pa ≤ gSectors gs secs pg - gTakes gs secs pg size ∧ 0 < gTakes gs secs pg size := by
 simp only [cMay, Bool.and_eq_true, decide_eq_true_eq] at h
 obtain ⟨h1, h2, h3⟩ := h
 have ht := h1
 unfold gTakes at ht
 split at ht
 · next hc =>
  simp only [Bool.and_eq_true, decide_eq_true_eq] at hc
  exact ⟨hc.1.1, hc.1.2, hc.2, h2, h3, h1⟩
 · omega
def ofList (gs : List (Int × Int)) (secs pg pa size : Int) : List Col := if cMay gs secs pg pa size then colsOf gs secs pg pa size else []
def ofErr (gs : List (Int × Int)) (secs pg pa size : Int) : Int := if cMay gs secs pg pa size then 0 else 1
set_option maxHeartbeats 1600000 in
theorem of_any (A : Option Addr) (n c : Nat) (gs : List (Int × Int)) (secs pg pa size : Int) (w : World) (hg : GeoAt w A n gs) :
 Calls Tryz.prog 43 #[.agg #[.slice A n c, .int .i64 secs], .agg #[.int .i64 pg, .int .i64 pa], .int .i64 size] w fun e w' =>
  ∃ v, e = .returned (.tuple #[v, .int .i64 (ofErr gs secs pg pa size)]) ∧
    w'.ownsRow w.heap.size 71 4 v (ofList gs secs pg pa size).length (colsCells (ofList gs secs pg pa size)) ∧ Below w.heap.size w w' := by
 have hb0 : Below w.heap.size w ((w.alloc (Obj.cells #[Value.slice A n c, Value.int IntKind.i64 secs] 24)).alloc (Obj.cells #[Value.int IntKind.i64 pg, Value.int IntKind.i64 pa] 26)) :=
  ((Below.refl _ _).alloc (Nat.le_refl _) _).alloc (by simp) _
 have H := Lib.hid (may_any A n c gs secs pg pa size _ (hg.below hb0 (Nat.le_refl _)))
 by_cases hh : cMay gs secs pg pa size = true
 · have hl : Hid (ofList gs secs pg pa size = colsOf gs secs pg pa size ∧ ofErr gs secs pg pa size = 0) := by unfold Hid ofList ofErr; rw [hh]; exact ⟨rfl, rfl⟩
   obtain ⟨hhas, hz1, hz2, hp1, hp2, _⟩ := cMay_true hh
   have hS := gSectors_bd gs secs pg
   have hT := gTakes_bd gs secs pg size
   have hp3 : pa ≤ 100000 := by omega
   have H2 : Hid (∀ w1, Below w.heap.size w w1 → Calls Tryz.prog 71 #[.agg #[.slice A n c, .int .i64 secs], .int .i64 pg] w1 fun e w' => e = .returned (.int .i64 (gFirst gs secs pg)) ∧ Below w1.heap.size w1 w') :=
    Lib.hid fun w1 hb => first_any A n c gs secs pg w1 (hg.below hb (Nat.le_refl _))
   have hfirst : Hid (0 ≤ gFirst gs secs pg ∧ gFirst gs secs pg ≤ 100) := by
    unfold Hid gFirst; rw [hhas]
    have hr : gRight gs secs = true := by simp only [gHas, Bool.and_eq_true] at hhas; exact hhas.1.1
    have := sum_take_bd hr pg.toNat
    simp only [if_true]; omega
   have HC : Hid (colsOf gs secs pg pa size = if (grAt gs pg).1 == 0 then mirror (gFirst gs secs pg) pa (grAt gs pg).2.toNat size.toNat else parTo (gFirst gs secs pg) (grAt gs pg).2 pa size.toNat) := Lib.hid rfl
   obtain ⟨k, x, rfl, hk, hl4, hs1, hs2, hx, hgx, ho⟩ := gHas_true hhas
   have ho' := gOne_true ho
   obtain ⟨b, off, rfl, hgs⟩ := hg.2.2 (by have := hg.1; omega)
   have hkn : (k : Int) < n := by have := hg.1; omega
   have HX := Lib.hid hx
   have HH := Lib.hid hh
   obtain ⟨kd, wd⟩ := x
   rw [hgx] at HC
   clear hx hgx hh hg hhas hS hT hp2 ho
   generalize gFirst gs secs k = F at *
   go_enter Tryz.func43, Tryz.ntmps43
   go_wp2_with fail
   refine H.out.mono ?_
   rintro e w1 ⟨rfl, hb1⟩
   have hb2 := hb0.trans (hb1.mono (by simp; omega))
   obtain ⟨hc, hf⟩ := bcell hb1
   have k1 : w1.cell? ⟨w.heap.size, 0, none⟩ = some (.slice (some ⟨b, off, none⟩) n c) := by rw [hc _ _ (by simp; omega)]; simp
   have k2 : w1.cell? ⟨w.heap.size, 1, none⟩ = some (.int .i64 secs) := by rw [hc _ _ (by simp; omega)]; simp
   have k3 : w1.cell? ⟨w.heap.size + 1, 0, none⟩ = some (.int .i64 k) := by rw [hc _ _ (by simp)]; simp
   have k4 : w1.cell? ⟨w.heap.size + 1, 1, none⟩ = some (.int .i64 pa) := by rw [hc _ _ (by simp)]; simp
   obtain ⟨k5, k6⟩ := (hgs.below hb2 (Nat.le_refl _)).2 k _ HX.out
   have hlt := hgs.1
   have hsz : w.heap.size + 2 ≤ w1.heap.size := by have := hb1.size; simp at this; omega
   clear hc hf hb1 hb0 H
   have hh := HH.out
   go_wp2_with fail
   clear hh
   go_cut [8, 9] (fun s8 s9 wx => ∃ g : Nat, s8 = .pointer (some ⟨g, 0, none⟩) ∧ s9 = .int .i64 F ∧ wx.cell? ⟨g, 0, none⟩ = some (.int .i64 kd) ∧ wx.cell? ⟨g, 1, none⟩ = some (.int .i64 wd) ∧ wx.cell? ⟨w.heap.size + 1, 1, none⟩ = some (.int .i64 pa) ∧ Below w.heap.size w wx)
   case first =>
    go_region_held3 (fun W => W.cell? ⟨w.heap.size, 0, none⟩ = some (.slice (some ⟨b, off, none⟩) n c) ∧ W.cell? ⟨w.heap.size, 1, none⟩ = some (.int .i64 secs) ∧ W.cell? ⟨w.heap.size + 1, 0, none⟩ = some (.int .i64 k) ∧
     W.cell? ⟨w.heap.size + 1, 1, none⟩ = some (.int .i64 pa) ∧ W.cell? ⟨b, off + k * 2, none⟩ = some (.int .i64 kd) ∧ W.cell? ⟨b, off + k * 2 + 1, none⟩ = some (.int .i64 wd) ∧ w.heap.size + 2 ≤ W.heap.size ∧ Below w.heap.size w W)
     (first
       | exact keep_realloc (‹_ ∧ _ ∧ _ ∧ _ ∧ _ ∧ _ ∧ _ ∧ Below w.heap.size w _›).2.2.2.2.2.2.2 (‹_ ∧ _ ∧ _ ∧ _ ∧ _ ∧ _ ∧ _ ∧ Below w.heap.size w _›).2.2.2.2.2.2.1
       | exact Below.setCell (p := ⟨w1.heap.size, 1, none⟩) (Below.setCell (p := ⟨w1.heap.size, 0, none⟩) (‹_ ∧ _ ∧ _ ∧ _ ∧ _ ∧ _ ∧ _ ∧ Below w.heap.size w _›).2.2.2.2.2.2.2 (Nat.le_trans (Nat.le_add_right _ 2) hsz) _) (Nat.le_trans (Nat.le_add_right _ 2) hsz) _
       | exact keep_alloc (‹_ ∧ _ ∧ _ ∧ _ ∧ _ ∧ _ ∧ _ ∧ Below w.heap.size w _›).2.2.2.2.2.2.2 _
       | exact Below.setCell (keep_alloc (‹_ ∧ _ ∧ _ ∧ _ ∧ _ ∧ _ ∧ _ ∧ Below w.heap.size w _›).2.2.2.2.2.2.2 _) (by first | exact (‹_ ∧ _ ∧ _ ∧ _ ∧ _ ∧ _ ∧ _ ∧ Below w.heap.size w _›).2.2.2.2.2.2.2.size | (simp; omega)) _
       | (refine ⟨?_, ?_, ?_, ?_, ?_, ?_, ?_, ?_⟩ <;> first | assumption | exact hb2.drew | exact keep_cell (by assumption) (by assumption) (by omega) | exact keep_below (by assumption) (by assumption) | exact keep_size (by assumption) (by assumption))
       | (obtain ⟨t1, t2, t3, t4, t5, t6, t7, t8⟩ := ‹_ ∧ _ ∧ _ ∧ _ ∧ _ ∧ _ ∧ _ ∧ Below w.heap.size w _›
          refine ⟨?_, ?_, ?_, ?_, ?_, ?_, ?_, ?_⟩
          all_goals first | exact t8.alloc t8.size _ | exact (t8.setCell (p := ⟨w1.heap.size, 0, none⟩) (Nat.le_trans (Nat.le_add_right _ 2) hsz) _).setCell (p := ⟨w1.heap.size, 1, none⟩) (Nat.le_trans (Nat.le_add_right _ 2) hsz) _ | exact t8.setCell (by omega) _ | exact keep_realloc t8 t7 | exact far2 (by assumption) (by omega) | exact Nat.le_trans t7 (by simp [World.setCell]) | exact recell (by assumption) (by omega) | exact Nat.le_trans t7 (by simp) | (go_keep; done) | (simp; omega)))
     (first | (go_at_call 71; obtain ⟨s1, s2, s3, s4, s5, s6, s7, s8⟩ := ‹_ ∧ _ ∧ _ ∧ _ ∧ _ ∧ _ ∧ _ ∧ Below w.heap.size w _›; refine (H2.out _ s8).mono ?_; rintro e w2 ⟨rfl, hb3⟩; have h9 := Nat.le_trans s7 hb3.size; have hq1 := fun h => hb3.cell (p := ⟨w1.heap.size, 0, none⟩) h; have hq2 := fun h => hb3.cell (p := ⟨w1.heap.size, 1, none⟩) h; have hq3 := fun h => hb3.frozen (p := ⟨w1.heap.size, 0, none⟩) h; have hq4 := fun h => hb3.frozen (p := ⟨w1.heap.size, 1, none⟩) h; dsimp only at hq1 hq2 hq3 hq4))
    all_goals
     obtain ⟨t1, t2, t3, t4, t5, t6, t7, t8⟩ := ‹_ ∧ _ ∧ _ ∧ _ ∧ _ ∧ _ ∧ _ ∧ Below w.heap.size w _›
     go_wp2_with fail
     go_meet
     first
      | exact ⟨w2.heap.size, rfl, rfl, by simp, by simp, t4, t8⟩
      | (have u1 : w2.cell? ⟨w1.heap.size, 0, none⟩ = some (.int .i64 0) := (hq1 (by simp)).trans (by simp)
         have u2 : w2.cell? ⟨w1.heap.size, 1, none⟩ = some (.int .i64 0) := (hq2 (by simp)).trans (by simp)
         exact ⟨w1.heap.size, rfl, rfl, (set2 u1 u2).1, (set2 u1 u2).2, t4, t8⟩)
   case rest =>
    obtain ⟨g, rfl, rfl, g1, g2, g3, g4⟩ := hcut
    obtain ⟨hF1, hF2⟩ := hfirst.out
    obtain ⟨sz, rfl⟩ := Int.eq_ofNat_of_zero_le (show 0 ≤ size by omega)
    have hsz4 : sz ≤ 4 := by omega
    rcases ho' with ⟨e, hw1, hw2⟩ | ⟨e, hw1, hw2⟩
    · subst e
      obtain ⟨wn, rfl⟩ := Int.eq_ofNat_of_zero_le (show 0 ≤ wd by omega)
      go_wp2_with fail
      refine (mirror_any F pa wn sz _ hF1 hF2 hp1 hp3 (by omega) hsz4).mono ?_
      rintro e w3 ⟨v, rfl, hown, hb5⟩
      go_wp2_with fail
      go_ret2
      refine ⟨v, ret2i hl.out.2.symm, ?_, g4.trans (hb5.mono g4.size)⟩
      rw [hl.out.1, HC.out]
      exact own_mono hown g4.size
    · subst e
      go_wp2_with fail
      refine (parity_any F wd pa sz _ hF1 hF2 hp1 hp3 hw1 hw2 hsz4).mono ?_
      rintro e w3 ⟨v, rfl, hown, hb5⟩
      go_wp2_with fail
      go_ret2
      refine ⟨v, ret2i hl.out.2.symm, ?_, g4.trans (hb5.mono g4.size)⟩
      rw [hl.out.1, HC.out]
      exact own_mono hown g4.size
 · have hh' : cMay gs secs pg pa size = false := by simpa using hh
   have hl : Hid (ofList gs secs pg pa size = [] ∧ ofErr gs secs pg pa size = 1) := by unfold Hid ofList ofErr; rw [hh']; exact ⟨rfl, rfl⟩
   have HH := Lib.hid hh'
   clear hh hh' hg
   go_enter Tryz.func43, Tryz.ntmps43
   go_wp2_with fail
   refine H.out.mono ?_
   rintro e w1 ⟨rfl, hb1⟩
   have hb2 := hb0.trans (hb1.mono (by simp; omega))
   have hh := HH.out
   go_wp2_with fail
   go_ret2
   refine ⟨_, ret2i hl.out.2.symm, ?_, hb2⟩
   rw [hl.out.1]
   exact World.ownsRow_nil _ _ _ _
end Go.Proofs.YtbhkbcpljakmjaaGreat

namespace Go.Proofs.YtbhkbcpljakmjaaGreat
set_option linter.unusedVariables false
set_option linter.unusedSimpArgs false
def dataCnt (l : List Col) (i : Nat) : Nat := ((l.take i).filter fun c => !c.2.2.1).length
theorem dataCnt_succ {l : List Col} {i : Nat} {c : Col} (h : l[i]? = some c) : dataCnt l (i + 1) = if c.2.2.1 then dataCnt l i else dataCnt l i + 1 := by
 unfold dataCnt
 rw [List.take_add_one, h]
 cases hc : c.2.2.1 <;> simp [hc]
def outD (l : List Col) (data : List (List UInt8)) (i : Nat) : List UInt8 := match l[i]? with
 | none => []
 | some c => if c.2.2.1 then [] else data.getD (dataCnt l i % data.length) []
def rowIx (l : List Col) (no : Int) : List Nat := (List.range l.length).filter fun i => match l[i]? with
 | none => false
 | some c => decide (c.2.2.2 = no) && !c.2.2.1
def outE (l : List Col) (data : List (List UInt8)) (i : Nat) : List UInt8 := match l[i]? with
 | none => []
 | some c => if c.2.2.1 then makeS ((rowIx l c.2.2.2).map (outD l data)) else outD l data i
def encL (gs : List (Int × Int)) (secs pg pa : Int) (s : List UInt8) : List (List UInt8) := (List.range (ofList gs secs pg pa (secN s)).length).map (outE (ofList gs secs pg pa (secN s)) (secsL s))
def encS (gs : List (Int × Int)) (secs pg pa : Int) (s : List UInt8) : List (List UInt8) := if secOk s && decide (ofErr gs secs pg pa (secN s) = 0) then encL gs secs pg pa s else []
def encE (gs : List (Int × Int)) (secs pg pa : Int) (s : List UInt8) : Int := if secOk s then ofErr gs secs pg pa (secN s) else 1
def rowTo (l : List Col) (no : Int) (k : Nat) : List Nat := (List.range k).filter fun i => match l[i]? with
 | none => false
 | some c => decide (c.2.2.2 = no) && !c.2.2.1
theorem rowTo_all (l : List Col) (no : Int) : rowTo l no l.length = rowIx l no := rfl
theorem rowTo_yes {l : List Col} {no : Int} {k : Nat} {c : Col} (h : l[k]? = some c) (h1 : c.2.2.2 = no) (h2 : c.2.2.1 = false) : rowTo l no (k + 1) = rowTo l no k ++ [k] := by
 simp [rowTo, List.range_succ, h, h1, h2]
theorem rowTo_no {l : List Col} {no : Int} {k : Nat} {c : Col} (h : l[k]? = some c) (h1 : ¬ (c.2.2.2 = no ∧ c.2.2.1 = false)) : rowTo l no (k + 1) = rowTo l no k := by
 unfold rowTo
 rw [List.range_succ, List.filter_append]
 have : (decide (c.2.2.2 = no) && !c.2.2.1) = false := by
  cases hb : c.2.2.1 <;> simp [hb] at h1 ⊢
  exact h1
 simp [h, this]
theorem rowIx_spec {l : List Col} {no : Int} {i : Nat} (h : i ∈ rowIx l no) : ∃ c, l[i]? = some c ∧ c.2.2.2 = no ∧ c.2.2.1 = false := by
 unfold rowIx at h
 have h2 := (List.mem_filter.1 h).2
 split at h2
 · cases h2
 · rename_i c hc
   simp only [Bool.and_eq_true, decide_eq_true_eq, Bool.not_eq_true'] at h2
   exact ⟨c, hc, h2.1, h2.2⟩
end Go.Proofs.YtbhkbcpljakmjaaGreat

namespace Go.Proofs.YtbhkbcpljakmjaaGreat
set_option linter.unusedVariables false
set_option linter.unusedSimpArgs false
open Go.RowKit
def ixC (l : List Nat) : List Value := l.map fun (i : Nat) => Value.int .i64 (i : Int)
theorem ixC_snoc (l : List Nat) (k : Nat) : ixC (l ++ [k]) = ixC l ++ [.int .i64 (k : Int)] := by simp [ixC]
theorem ixC_at {l : List Nat} {j k : Nat} (h : l[j]? = some k) : (ixC l)[j]? = some (.int .i64 (k : Int)) := by simp [ixC, h]
abbrev colZ : Array Value := #[.int .i64 0, .int .i64 0, .bool false, .int .i64 0]
theorem colsCells_at {l : List Col} {i : Nat} {c : Col} (h : l[i]? = some c) : (colsCells l)[i * 4]? = some (.int .i64 c.1) ∧ (colsCells l)[i * 4 + 1]? = some (.int .i64 c.2.1) ∧ (colsCells l)[i * 4 + 2]? = some (.bool c.2.2.1) ∧ (colsCells l)[i * 4 + 3]? = some (.int .i64 c.2.2.2) :=
 ⟨(flat_at' colCells 4 (fun _ => rfl) l i c h 0 (by omega)).trans rfl, (flat_at' colCells 4 (fun _ => rfl) l i c h 1 (by omega)).trans rfl, (flat_at' colCells 4 (fun _ => rfl) l i c h 2 (by omega)).trans rfl, (flat_at' colCells 4 (fun _ => rfl) l i c h 3 (by omega)).trans rfl⟩
theorem sets_size' {g : Nat} : ∀ (vs : List Value) (o : Nat) (w : World), (w.setCells g o vs).heap.size = w.heap.size
 | [], _, _ => rfl
 | v :: r, o, w => by rw [World.setCells, sets_size' r]; simp [World.setCell]
set_option maxRecDepth 20000 in
theorem codeRow_any {L : List Col} {sv : Value} (no : Int) {w : World} (h : SlAt w sv L.length (colsCells L)) (f9 : L.length ≤ 1000) : Calls Tryz.prog 82 #[sv, .int .i64 no] w fun e w' =>
 ∃ v, e = .returned v ∧ w'.ownsRow w.heap.size 3 1 v (rowIx L no).length (ixC (rowIx L no)) ∧ Below w.heap.size w w' := by
 obtain ⟨i0, hi, hz0, hz1, hz2⟩ := info_parts Tryz.infoIntR
 obtain ⟨A, c, rfl⟩ := h.form
 have H := Lib.hid h
 clear h
 go_enter Tryz.func82, Tryz.ntmps82
 go_wp2_with fail
 go_loopw [5, 6, 7, 10] (fun v _ _ t wr => ∃ k : Nat, k ≤ L.length ∧ t = .int .i64 k ∧ wr.ownsRow w.heap.size 3 1 v (rowTo L no k).length (ixC (rowTo L no k)) ∧ Below w.heap.size w wr) (fun _ _ _ t _ => L.length - (RowKit.intOf t).toNat)
 case atStart => exact ⟨0, Nat.zero_le _, rfl, (World.ownsRow_nil _ _ _ _ : w.ownsRow w.heap.size 3 1 (.slice none 0 0) 0 []), Below.refl _ _⟩
 case round =>
  obtain ⟨k, hk, rfl, hown, hb⟩ := hrel
  have HOWN := Lib.hid hown
  have HB := Lib.hid hb
  clear hown hb
  by_cases hlt : k < L.length
  · obtain ⟨b, o, rfl, hbl, hcell⟩ := H.out.cells (by omega)
    obtain ⟨x, hx⟩ : ∃ x, L[k]? = some x := ⟨_, List.getElem?_eq_getElem hlt⟩
    obtain ⟨q0, q1, q2, q3⟩ := colsCells_at hx
    have hcl : ∀ j u, (colsCells L)[j]? = some u → wr.cell? ⟨b, o + j, none⟩ = some u := fun j u hu => (World.cell?_of_block (HB.out.block b hbl)).trans (hcell j u hu)
    have f0 : wr.cell? ⟨b, o + k * 4, none⟩ = some (.int .i64 x.1) := hcl _ _ q0
    have f1 : wr.cell? ⟨b, o + k * 4 + 1, none⟩ = some (.int .i64 x.2.1) := hcl _ _ q1
    have f2 : wr.cell? ⟨b, o + k * 4 + 2, none⟩ = some (.bool x.2.2.1) := hcl _ _ q2
    have f3 : wr.cell? ⟨b, o + k * 4 + 3, none⟩ = some (.int .i64 x.2.2.2) := hcl _ _ q3
    have hdc : decide (k < L.length) = true := decide_eq_true hlt
    have HLT := Lib.hid hlt
    have HX := Lib.hid hx
    have hi44 : (Tryz.prog.info? 71).map (·.size) = some (#[.int .i64 x.1, .int .i64 x.2.1, .bool x.2.2.1, .int .i64 x.2.2.2] : Array Value).size := by kernel_rfl
    have h1c : (#[.int .i64 x.1, .int .i64 x.2.1, .bool x.2.2.1, .int .i64 x.2.2.2] : Array Value).all (·.oneCell') = true := by kernel_rfl
    have Z2 : Blk (wr.alloc (.cells colZ 71)) wr.heap.size 71 colZ := Blk.new _ _ _
    have hth : (wr.alloc (.cells colZ 71)).there wr.heap.size 0 (#[.int .i64 x.1, .int .i64 x.2.1, .bool x.2.2.1, .int .i64 x.2.2.2] : Array Value).size := Z2.there (Nat.le_refl _)
    obtain ⟨w2, hw2⟩ : ∃ y, (wr.alloc (.cells colZ 71)).setCells wr.heap.size 0 (#[.int .i64 x.1, .int .i64 x.2.1, .bool x.2.2.1, .int .i64 x.2.2.2] : Array Value).toList = y := ⟨_, rfl⟩
    have X2 : Blk w2 wr.heap.size 71 #[.int .i64 x.1, .int .i64 x.2.1, .bool x.2.2.1, .int .i64 x.2.2.2] := by rw [← hw2]; exact Z2.putAll _ rfl
    have hb2 : Below wr.heap.size wr w2 := by rw [← hw2]; exact below_sets _ _ (keep_alloc (Below.refl _ _) _) (Nat.le_refl _)
    have hs2 : w2.heap.size = wr.heap.size + 1 := by rw [← hw2, sets_size', World.size_alloc]
    have HW2 := Lib.hid hw2
    have HX2 := Lib.hid X2
    have HK2 := Lib.hid hb2
    have HS2 := Lib.hid hs2
    have e2 : w2.cell? ⟨wr.heap.size, 2, none⟩ = some (.bool x.2.2.1) := X2.at_ rfl
    have e3 : w2.cell? ⟨wr.heap.size, 3, none⟩ = some (.int .i64 x.2.2.2) := X2.at_ rfl
    clear q0 q1 q2 q3 hcl hcell hx hbl hw2 X2 hb2 hs2 Z2
    have hlen : (rowTo L no k).length ≤ k := by unfold rowTo; exact Nat.le_trans (List.length_filter_le _ _) (by simp)
    have hown2 : w2.ownsRow w.heap.size 3 1 u5 (rowTo L no k).length (ixC (rowTo L no k)) := ownsRow_same HOWN.out (fun y hy => HK2.out.block y (HOWN.out.lt y hy).2)
    have hd2 : Below w.heap.size w w2 := HB.out.trans (HK2.out.mono HB.out.size)
    have HO2 := Lib.hid hown2
    have HD2 := Lib.hid hd2
    clear hown2 hd2
    by_cases hyes : x.2.2.2 = no ∧ x.2.2.1 = false
    · have hq : (x.2.2.2 == no) = true := by rw [beq_iff_eq]; exact hyes.1
      have HT : Hid (rowTo L no (k + 1) = rowTo L no k ++ [k]) := Lib.hid (rowTo_yes HX.out hyes.1 hyes.2)
      rw [hyes.2] at e2
      clear hyes
      go_wp2_with (first
       | ((with_reducible refine wpList_store_mid ?a1 71 (.tmp 7) (.tmp 14) ?a2 wr.heap.size 0 #[.int .i64 x.1, .int .i64 x.2.1, .bool x.2.2.1, .int .i64 x.2.2.2] ?a3 ?a4 hth hi44 h1c ?_); (case a1 => rfl); (case a2 => rfl); (case a3 => rfl); (case a4 => rfl); simp only [Act.put, List.setIfInBounds_toArray, List.set_cons_zero, List.set_cons_succ]; rw [HW2.out])
       | (at_builtin; refine wpList_append_own _ rfl _ _ 74 rfl w.heap.size 3 i0 _ 1 8 Tryz.underlying74 hi hz0 hz1 hz2 rfl (by decide) _ _ _ rfl (HO2.out.alloc _) ⟨w2.heap.size, 0, none⟩ 1 1 [.int .i64 (k : Int)] rfl rfl ?c1 ?c2 (by unfold maxLen; omega) (by omega) ?c5 ?_))
      try (case c1 => exact one_new' _ _ _)
      case c2 => first | rfl | (intro u hu; simp at hu; subst hu; rfl)
      case c5 => have := HD2.out.size; simp; omega
      intro v' w3 hown' hgrow _
      have hown3 : w3.ownsRow w.heap.size 3 1 v' (rowTo L no (k + 1)).length (ixC (rowTo L no (k + 1))) := by
       rw [HT.out, ixC_snoc, List.length_append]
       exact hown'
      have hb3 : Below w.heap.size w w3 := (HD2.out.alloc HD2.out.size _).grown hgrow (by have := HD2.out.size; simp; omega) (fun k hk => (HO2.out.lt k hk).1)
      have HO3 := Lib.hid hown3
      have HB3 := Lib.hid hb3
      clear hown' hgrow hown3 hb3
      go_wp2_with fail
      go_roundw
      case rel => exact ⟨k + 1, HLT.out, by go_num, HO3.out, HB3.out⟩
      case measure => have := HLT.out; simp [RowKit.intOf]; omega
    · have HT : Hid (rowTo L no (k + 1) = rowTo L no k) := Lib.hid (rowTo_no HX.out hyes)
      cases hq : (x.2.2.2 == no) with
      | false =>
       clear hyes
       go_wp2_with ((with_reducible refine wpList_store_mid ?a1 71 (.tmp 7) (.tmp 14) ?a2 wr.heap.size 0 #[.int .i64 x.1, .int .i64 x.2.1, .bool x.2.2.1, .int .i64 x.2.2.2] ?a3 ?a4 hth hi44 h1c ?_); (case a1 => rfl); (case a2 => rfl); (case a3 => rfl); (case a4 => rfl); simp only [Act.put, List.setIfInBounds_toArray, List.set_cons_zero, List.set_cons_succ]; rw [HW2.out])
       go_roundw
       case rel => exact ⟨k + 1, HLT.out, by go_num, by rw [HT.out]; exact HO2.out, HD2.out⟩
       case measure => have := HLT.out; simp [RowKit.intOf]; omega
      | true =>
       have hpar : x.2.2.1 = true := by
        cases hp : x.2.2.1 with
        | true => rfl
        | false => exact absurd ⟨eq_of_beq hq, hp⟩ hyes
       rw [hpar] at e2
       clear hyes hpar
       go_wp2_with ((with_reducible refine wpList_store_mid ?a1 71 (.tmp 7) (.tmp 14) ?a2 wr.heap.size 0 #[.int .i64 x.1, .int .i64 x.2.1, .bool x.2.2.1, .int .i64 x.2.2.2] ?a3 ?a4 hth hi44 h1c ?_); (case a1 => rfl); (case a2 => rfl); (case a3 => rfl); (case a4 => rfl); simp only [Act.put, List.setIfInBounds_toArray, List.set_cons_zero, List.set_cons_succ]; rw [HW2.out])
       go_roundw
       case rel => exact ⟨k + 1, HLT.out, by go_num, by rw [HT.out]; exact HO2.out, HD2.out⟩
       case measure => have := HLT.out; simp [RowKit.intOf]; omega
  · obtain rfl : k = L.length := by omega
    have hdc : decide ((L.length : Int) < L.length) = false := decide_eq_false (by omega)
    go_wp2_with fail
    go_ret
    exact ⟨_, rfl, by rw [← rowTo_all]; exact HOWN.out, HB.out⟩
end Go.Proofs.YtbhkbcpljakmjaaGreat
