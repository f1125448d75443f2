/-
  Contracts of package cols, third part: parity and its closure.
  Contracts of package cols, fourth part: parity, Of.
  Contracts of package cols, fifth part: Of.
  Plain words on pointers: unlike pointers have unlike bytes; what is right can be laid.
  Contracts of le's reader: New, Left, Take, number, U64.
-/
import Derived.Test.YtidmbibpoldgcaaGreatDoorJ06
import Derived.Deep.RegionLaw
import Derived.Deep.DeepCutAuto
import Derived.Test.YtidmbibpoldgcaaGreatDoorJ01
namespace Go.Proofs.YtidmbibpoldgcaaGreatDoor
open Go.RowKit

def pcol (first wide at_ : Int) (k : Nat) (par : Bool) (row : Int) : Col := (first + (at_ + k) % wide, 16 + (at_ + k) / wide, par, row)

/-- Block b is one cell that holds v. -/
def Box (w : World) (b : Nat) (t : TypeId) (v : Value) : Prop := w.heap[b]? = some (.cells #[v] t (0, 0))
theorem Box.lt {w : World} {b : Nat} {t : TypeId} {v : Value} (h : Box w b t v) : b < w.heap.size := lt_of_block h
theorem Box.cell {w : World} {b : Nat} {t : TypeId} {v : Value} (h : Box w b t v) : w.cell? ⟨b, 0, none⟩ = some v := cell_of_one h
theorem Box.free {w : World} {b : Nat} {t : TypeId} {v : Value} (h : Box w b t v) : w.frozen? ⟨b, 0, none⟩ = false := free_of_one h
theorem Box.below {w w' : World} {b B : Nat} {t : TypeId} {v : Value} (h : Box w b t v) (hb : Below B w w') (hB : b < B) : Box w' b t v := (hb.block b hB).trans h

set_option maxHeartbeats 1600000 in
theorem parity1_any (base n Bat Bout Bf Bw : Nat) (first wide at_ row : Int) (par : Bool) (v : Value) (L : List Col) (w : World) (hbase : base ≤ w.heap.size)
    (_hBat : Bat < base) (hBout : Bout < base) (_hBf : Bf < base) (_hBw : Bw < base)
    (h1 : 0 ≤ first) (h2 : first ≤ 100) (h3 : 0 ≤ at_) (h4 : at_ ≤ 100000) (hw1 : 1 ≤ wide) (hw : wide ≤ 8) (hn : n ≤ 100) (hL : L.length = n)
    (bat : Box w Bat 3 (.int .i64 at_)) (bout : Box w Bout 115 v) (bf : Box w Bf 3 (.int .i64 first)) (bw : Box w Bw 3 (.int .i64 wide))
    (hown : w.ownsRow base 153 4 v n (colsCells L)) :
    Calls Tryz.prog 86 #[.int .i64 row, .bool par, .pointer (some ⟨Bat, 0, none⟩), .pointer (some ⟨Bout, 0, none⟩), .pointer (some ⟨Bf, 0, none⟩), .pointer (some ⟨Bw, 0, none⟩)] w fun e w' =>
      e = .returned (.tuple #[]) ∧ ∃ v' w1, w' = w1.setCell ⟨Bout, 0, none⟩ v' ∧ Below base w w1 ∧ w1.ownsRow base 153 4 v' (n + 1) (colsCells (L ++ [pcol first wide at_ n par row])) := by
  obtain ⟨i0, hi, hz0, hz1, hz2⟩ := info_parts Tryz.infoCol
  obtain ⟨ao, cp, rfl⟩ := own_slice hown
  have c1 := bat.cell
  have c2 := bout.cell
  have c3 := bf.cell
  have c4 := bw.cell
  have f2 := bout.free
  have l1 := bat.lt
  have l2 := bout.lt
  have l3 := bf.lt
  have l4 := bw.lt
  go_enter Tryz.func86, Tryz.ntmps86
  go_wp2_with fail
  have r1 : 0 ≤ (at_ + n) % wide := Int.emod_nonneg _ (by omega)
  have r2 : (at_ + n) % wide < wide := Int.emod_lt_of_pos _ (by omega)
  have q1 : 0 ≤ (at_ + n) / wide := Int.ediv_nonneg (by omega) (by omega)
  have q2 : (at_ + n) / wide ≤ at_ + n := Int.ediv_le_self _ (by omega)
  have e0 : ¬ wide = 0 := by omega
  have e1 : (at_ + n).tmod wide = (at_ + n) % wide := Int.tmod_eq_emod_of_nonneg (by omega)
  have e4 : (at_ + n).tdiv wide = (at_ + n) / wide := Int.tdiv_eq_ediv_of_nonneg (by omega)
  have e2 : IntKind.i64.wrap ((at_ + n) % wide) = (at_ + n) % wide := by rw [IntKind.wrap_i64]; omega
  have e5 : IntKind.i64.wrap ((at_ + n) / wide) = (at_ + n) / wide := by rw [IntKind.wrap_i64]; omega
  have e3 : IntKind.i64.wrap (first + (at_ + n) % wide) = first + (at_ + n) % wide := by rw [IntKind.wrap_i64]; omega
  have e6 : IntKind.i64.wrap (16 + (at_ + n) / wide) = 16 + (at_ + n) / wide := by rw [IntKind.wrap_i64]; omega
  have F1 := Lib.hid hbase
  have F2 := Lib.hid hBout
  have F3 := Lib.hid hn
  have F4 : Hid ((at_ + n).tmod wide = (at_ + n) % wide) := e1
  clear r1 r2 q1 q2 hbase _hBat hBout _hBf _hBw h1 h2 h3 h4 hw1 hw hn hL bat bf bw bout F4
  go_region_law (first | (refine step_append_lies _ rfl (.tmp 13) (.tmp 26) 115 rfl base 153 i0 _ 4 32 Tryz.underlying115 hi hz0 hz1 hz2 rfl (by decide) _ _ _ rfl (hown.alloc _) ⟨w.heap.size, 0, none⟩ 1 1 (colCells (pcol first wide at_ n par row)) rfl rfl (col_new _ _ _) (col_one _) (by decide) (by have := F3.out; unfold maxLen; omega) (by have := F3.out; omega) (by have := F1.out; simp; omega) _ rfl ?_; intro g cap w1 hown' hgrow hat hlt; have hbw : Below base w w1 := (((Below.refl base w).drew).alloc F1.out _).grown hgrow (by have := F1.out; simp; omega) (fun k hk => (hown.lt k hk).1); have g2 := (hbw.cell (p := ⟨Bout, 0, none⟩) F2.out).trans c2; have gf := (hbw.frozen (p := ⟨Bout, 0, none⟩) F2.out).trans f2; clear hown hgrow hat hlt))
  all_goals go_wp2
  all_goals go_end0
  all_goals exact ⟨rfl, _, w1, rfl, hbw, by rw [colsCells_snoc]; exact hown'⟩
end Go.Proofs.YtidmbibpoldgcaaGreatDoor

namespace Go.Proofs.YtidmbibpoldgcaaGreatDoor
open Go.RowKit
set_option linter.unusedVariables false

theorem Box.new {w : World} {k : Nat} {t : TypeId} {v : Value} (hk : k = w.heap.size) : Box (w.alloc (.cells #[v] t)) k t v := by subst hk; exact heap_alloc_new w _
theorem Box.alloc {w : World} {k : Nat} {t : TypeId} {v : Value} (h : Box w k t v) (o : Obj) : Box (w.alloc o) k t v := (Below.heap_alloc w o k h.lt).trans h

def ParSt (w0 w : World) (H : Nat) (first wide at_ : Int) (L : List Col) (v : Value) : Prop :=
  Box w H 3 (.int .i64 first) ∧ Box w (H + 1) 3 (.int .i64 wide) ∧ Box w (H + 2) 3 (.int .i64 at_) ∧ Box w (H + 3) 115 v ∧
    w.ownsRow (H + 4) 153 4 v L.length (colsCells L) ∧ Below H w0 w ∧ H + 4 ≤ w.heap.size

theorem ParSt.add {w0 w : World} {H : Nat} {first wide at_ row : Int} {L : List Col} {v : Value} (h : ParSt w0 w H first wide at_ L v) (par : Bool)
    (h1 : 0 ≤ first) (h2 : first ≤ 100) (h3 : 0 ≤ at_) (h4 : at_ ≤ 100000) (hw1 : 1 ≤ wide) (hw : wide ≤ 8) (hn : L.length ≤ 100) :
    Calls Tryz.prog 86 #[.int .i64 row, .bool par, .pointer (some ⟨H + 2, 0, none⟩), .pointer (some ⟨H + 3, 0, none⟩), .pointer (some ⟨H, 0, none⟩), .pointer (some ⟨H + 1, 0, none⟩)] w fun e w' =>
      e = .returned (.tuple #[]) ∧ ∃ v', ParSt w0 w' H first wide at_ (L ++ [pcol first wide at_ L.length par row]) v' := by
  obtain ⟨b0, b1, b2, b3, hown, hb, hsz⟩ := h
  refine (parity1_any (H + 4) L.length (H + 2) (H + 3) H (H + 1) first wide at_ row par v L w hsz (by omega) (by omega) (by omega) (by omega) h1 h2 h3 h4 hw1 hw hn rfl b2 b3 b0 b1 hown).mono ?_
  rintro e w' ⟨rfl, v', w1, rfl, hb1, hown'⟩
  refine ⟨rfl, v', ?_, ?_, ?_, ?_, ?_, ?_, ?_⟩
  · exact (Below.heap_setCell _ _ _ _ (by simp)).trans (b0.below hb1 (by omega))
  · exact (Below.heap_setCell _ _ _ _ (by simp)).trans (b1.below hb1 (by omega))
  · exact (Below.heap_setCell _ _ _ _ (by simp)).trans (b2.below hb1 (by omega))
  · exact one_setCell (b3.below hb1 (by omega))
  · rw [List.length_append]
    exact ownsRow_setCell_below hown' (by simp) _
  · exact (hb.trans (hb1.mono (by omega))).setCell (by simp) _
  · have := hb1.size
    simp [World.setCell]; omega

/-- The columns of a parity, the first k sectors of a block. -/
def parTo (first wide at_ : Int) : Nat → List Col
  | 0 => []
  | k + 1 =>
    (if (k : Int) % (wide - 1) == 0 then parTo first wide at_ k ++ [pcol first wide at_ (parTo first wide at_ k).length true ((k : Int) / (wide - 1))] else parTo first wide at_ k) ++
      [pcol first wide at_ (if (k : Int) % (wide - 1) == 0 then parTo first wide at_ k ++ [pcol first wide at_ (parTo first wide at_ k).length true ((k : Int) / (wide - 1))] else parTo first wide at_ k).length false ((k : Int) / (wide - 1))]

theorem parTo_len (first wide at_ : Int) (k : Nat) : (parTo first wide at_ k).length ≤ 2 * k := by
  induction k with
  | zero => simp [parTo]
  | succ k ih =>
    rw [parTo]
    split <;> simp <;> omega

theorem parity_any (first wide at_ : Int) (size : Nat) (w : World) (h1 : 0 ≤ first) (h2 : first ≤ 100) (h3 : 0 ≤ at_) (h4 : at_ ≤ 100000) (hw1 : 3 ≤ wide) (hw : wide ≤ 8) (hs : size ≤ 4) :
    Calls Tryz.prog 71 #[.int .i64 first, .int .i64 wide, .int .i64 at_, .int .i64 size] w fun e w' => ∃ v, e = .returned v ∧
      w'.ownsRow w.heap.size 153 4 v (parTo first wide at_ size).length (colsCells (parTo first wide at_ size)) ∧ Below w.heap.size w w' := by
  go_enter Tryz.func71, Tryz.ntmps71
  go_wp2
  go_loopw [15] (fun t wr => ∃ (k : Nat) (v : Value), k ≤ size ∧ t = .int .i64 k ∧ ParSt w wr w.heap.size first wide at_ (parTo first wide at_ k) v) (fun t _ => size - (RowKit.intOf t).toNat)
  case atStart =>
    refine ⟨0, .slice none 0 0, Nat.zero_le _, rfl, ?_, ?_, ?_, ?_, World.ownsRow_nil _ _ _ _, ?_, ?_⟩
    · exact (((Box.new rfl).alloc _).alloc _).alloc _
    · exact ((Box.new (by simp)).alloc _).alloc _
    · exact (Box.new (by simp)).alloc _
    · exact Box.new (by simp)
    · exact ((((Below.refl _ _).alloc (Nat.le_refl _) _).alloc (by simp) _).alloc (by simp; omega) _).alloc (by simp; omega) _
    · simp
  case round =>
    obtain ⟨k, v, hk, rfl, hst⟩ := hrel
    have c1 := hst.2.1.cell
    have c2 := hst.2.2.2.1.cell
    have hd1 : 0 ≤ (k : Int) / (wide - 1) := Int.ediv_nonneg (by omega) (by omega)
    have hd2 : (k : Int) / (wide - 1) ≤ k := Int.ediv_le_self _ (by omega)
    have hlen := parTo_len first wide at_ k
    by_cases hlt : k < size
    · by_cases hz : ((k : Int) % (wide - 1) == 0) = true
      · have hP : Hid (parTo first wide at_ (k + 1) = (parTo first wide at_ k ++ [pcol first wide at_ (parTo first wide at_ k).length true ((k : Int) / (wide - 1))]) ++
            [pcol first wide at_ (parTo first wide at_ k ++ [pcol first wide at_ (parTo first wide at_ k).length true ((k : Int) / (wide - 1))]).length false ((k : Int) / (wide - 1))]) := by
          unfold Hid; rw [parTo, if_pos hz]
        have HS := Lib.hid hst
        clear hst
        go_wp2_with fail
        refine (HS.out.add (row := (k : Int) / (wide - 1)) true h1 h2 h3 h4 (by omega) hw (by omega)).mono ?_
        rintro e w1 ⟨rfl, v1, hst1⟩
        have HS1 := Lib.hid hst1
        clear hst1
        go_wp2_with fail
        refine (HS1.out.add (row := (k : Int) / (wide - 1)) false h1 h2 h3 h4 (by omega) hw (by simp; omega)).mono ?_
        rintro e w2 ⟨rfl, v2, hst2⟩
        have HS2 := Lib.hid hst2
        clear hst2
        go_wp2_with fail
        go_roundw
        case rel => exact ⟨k + 1, v2, by omega, by go_num, by rw [hP.out]; exact HS2.out⟩
        case measure => simp [RowKit.intOf]; omega
      · have hz' : ((k : Int) % (wide - 1) == 0) = false := by simpa using hz
        clear hz
        have hP : Hid (parTo first wide at_ (k + 1) = parTo first wide at_ k ++ [pcol first wide at_ (parTo first wide at_ k).length false ((k : Int) / (wide - 1))]) := by
          unfold Hid; rw [parTo, if_neg (by simpa using hz')]
        have HS := Lib.hid hst
        clear hst
        go_wp2_with fail
        refine (HS.out.add (row := (k : Int) / (wide - 1)) false h1 h2 h3 h4 (by omega) hw (by omega)).mono ?_
        rintro e w1 ⟨rfl, v1, hst1⟩
        have HS1 := Lib.hid hst1
        clear hst1
        go_wp2_with fail
        go_roundw
        case rel => exact ⟨k + 1, v1, by omega, by go_num, by rw [hP.out]; exact HS1.out⟩
        case measure => simp [RowKit.intOf]; omega
    · obtain rfl : k = size := by omega
      have HS := Lib.hid hst
      have c3 := hst.2.2.2.1.cell
      clear hst
      go_wp2_with fail
      go_ret
      obtain ⟨_, _, _, _, hown, hb, _⟩ := HS.out
      refine ⟨_, rfl, ?_, hb⟩
      exact ⟨hown.1, by
        rcases hown.2 with h | ⟨g, cap, cur, h1, h2, h3⟩
        · exact .inl h
        · exact .inr ⟨g, cap, cur, h1, by omega, h3⟩⟩

/-- The columns of a block. -/
def colsOf (gs : List (Int × Int)) (secs pg pa size : Int) : List Col :=
  if (grAt gs pg).1 == 0 then mirror (gFirst gs secs pg) pa (grAt gs pg).2.toNat size.toNat else parTo (gFirst gs secs pg) (grAt gs pg).2 pa size.toNat

end Go.Proofs.YtidmbibpoldgcaaGreatDoor

namespace Go.Proofs.YtidmbibpoldgcaaGreatDoor
open Go.RowKit
set_option linter.unusedVariables false

theorem keep_realloc {W w : World} {o o' : Obj} (h : Below w.heap.size w (W.alloc o)) (hB : w.heap.size + 2 ≤ (W.alloc o).heap.size) : Below w.heap.size w (W.alloc o') :=
  ⟨h.os, h.tape, h.output, by simp at hB ⊢; omega, fun k hk => by
    have h1 := h.block k hk
    have hk' : k < W.heap.size := by simp at hB; omega
    rw [Below.heap_alloc W o k hk'] at h1
    rw [Below.heap_alloc W o' k hk']
    exact h1⟩

theorem far2 {W : World} {g b k : Nat} {v x y : Value} (h : W.cell? ⟨b, k, none⟩ = some v) (hb : b ≠ g) : ((W.setCell ⟨g, 0, none⟩ x).setCell ⟨g, 1, none⟩ y).cell? ⟨b, k, none⟩ = some v := by
  rw [World.cell?_setCell_other _ _ _ _ (fun e => hb (by injection e with e; exact e.symm)), World.cell?_setCell_other _ _ _ _ (fun e => hb (by injection e with e; exact e.symm))]
  exact h
theorem own_mono {w : World} {base base' : Nat} {e : TypeId} {size : Nat} {v : Value} {n : Nat} {xs : List Value} (h : w.ownsRow base e size v n xs) (hb : base' ≤ base) : w.ownsRow base' e size v n xs :=
  ⟨h.1, by
    rcases h.2 with h | ⟨g, cap, cur, h1, h2, h3⟩
    · exact .inl h
    · exact .inr ⟨g, cap, cur, h1, by omega, h3⟩⟩
theorem set2 {W : World} {g : Nat} {a b x y : Value} (h0 : W.cell? ⟨g, 0, none⟩ = some a) (h1 : W.cell? ⟨g, 1, none⟩ = some b) :
    ((W.setCell ⟨g, 0, none⟩ x).setCell ⟨g, 1, none⟩ y).cell? ⟨g, 0, none⟩ = some x ∧ ((W.setCell ⟨g, 0, none⟩ x).setCell ⟨g, 1, none⟩ y).cell? ⟨g, 1, none⟩ = some y := by
  constructor
  · rw [World.cell?_setCell_other _ _ _ _ (by simp)]
    exact World.cell?_setCell_same _ _ _ h0
  · exact World.cell?_setCell_same _ _ _ ((World.cell?_setCell_other _ _ _ _ (by simp)).trans h1)
theorem ret2i {k : IntKind} {v : Value} {a b : Int} (h : a = b) : Ending.returned (.tuple #[v, .int k a]) = .returned (.tuple #[v, .int k b]) := by rw [h]
theorem recell {W : World} {o o2 : Obj} {b k : Nat} {v : Value} (h : (W.alloc o).cell? ⟨b, k, none⟩ = some v) (hb : b < W.heap.size) : (W.alloc o2).cell? ⟨b, k, none⟩ = some v := by
  rw [World.cell?_alloc_lt W o2 _ hb, ← World.cell?_alloc_lt W o _ hb]; exact h

theorem cMay_true {gs : List (Int × Int)} {secs pg pa size : Int} (h : cMay gs secs pg pa size = true) :
    gHas gs secs pg = true ∧ 1 ≤ size ∧ size ≤ 4 ∧ 0 ≤ pa ∧ pa ≤ gSectors gs secs pg - gTakes gs secs pg size ∧ 0 < gTakes gs secs pg size := by
  simp only [cMay, Bool.and_eq_true, decide_eq_true_eq] at h
  obtain ⟨h1, h2, h3⟩ := h
  have ht := h1
  unfold gTakes at ht
  split at ht
  · next hc =>
    simp only [Bool.and_eq_true, decide_eq_true_eq] at hc
    exact ⟨hc.1.1, hc.1.2, hc.2, h2, h3, h1⟩
  · omega

def ofList (gs : List (Int × Int)) (secs pg pa size : Int) : List Col := if cMay gs secs pg pa size then colsOf gs secs pg pa size else []
def ofErr (gs : List (Int × Int)) (secs pg pa size : Int) : Int := if cMay gs secs pg pa size then 0 else 1

set_option maxHeartbeats 1600000 in
theorem of_any (A : Option Addr) (n c : Nat) (gs : List (Int × Int)) (secs pg pa size : Int) (w : World) (hg : GeoAt w A n gs) :
    Calls Tryz.prog 52 #[.agg #[.slice A n c, .int .i64 secs], .agg #[.int .i64 pg, .int .i64 pa], .int .i64 size] w fun e w' =>
      ∃ v, e = .returned (.tuple #[v, .int .i64 (ofErr gs secs pg pa size)]) ∧
        w'.ownsRow w.heap.size 153 4 v (ofList gs secs pg pa size).length (colsCells (ofList gs secs pg pa size)) ∧ Below w.heap.size w w' := by
  have hb0 : Below w.heap.size w ((w.alloc (Obj.cells #[Value.slice A n c, Value.int IntKind.i64 secs] 24)).alloc (Obj.cells #[Value.int IntKind.i64 pg, Value.int IntKind.i64 pa] 26)) :=
    ((Below.refl _ _).alloc (Nat.le_refl _) _).alloc (by simp) _
  have H := Lib.hid (may_any A n c gs secs pg pa size _ (hg.below hb0 (Nat.le_refl _)))
  by_cases hh : cMay gs secs pg pa size = true
  · have hl : Hid (ofList gs secs pg pa size = colsOf gs secs pg pa size ∧ ofErr gs secs pg pa size = 0) := by unfold Hid ofList ofErr; rw [hh]; exact ⟨rfl, rfl⟩
    obtain ⟨hhas, hz1, hz2, hp1, hp2, _⟩ := cMay_true hh
    have hS := gSectors_bd gs secs pg
    have hT := gTakes_bd gs secs pg size
    have hp3 : pa ≤ 100000 := by omega
    have H2 : Hid (∀ w1, Below w.heap.size w w1 → Calls Tryz.prog 69 #[.agg #[.slice A n c, .int .i64 secs], .int .i64 pg] w1 fun e w' => e = .returned (.int .i64 (gFirst gs secs pg)) ∧ Below w1.heap.size w1 w') :=
      Lib.hid fun w1 hb => first_any A n c gs secs pg w1 (hg.below hb (Nat.le_refl _))
    have hfirst : Hid (0 ≤ gFirst gs secs pg ∧ gFirst gs secs pg ≤ 100) := by
      unfold Hid gFirst; rw [hhas]
      have hr : gRight gs secs = true := by simp only [gHas, Bool.and_eq_true] at hhas; exact hhas.1.1
      have := sum_take_bd hr pg.toNat
      simp only [if_true]; omega
    have HC : Hid (colsOf gs secs pg pa size = if (grAt gs pg).1 == 0 then mirror (gFirst gs secs pg) pa (grAt gs pg).2.toNat size.toNat else parTo (gFirst gs secs pg) (grAt gs pg).2 pa size.toNat) := Lib.hid rfl
    obtain ⟨k, x, rfl, hk, hl4, hs1, hs2, hx, hgx, ho⟩ := gHas_true hhas
    have ho' := gOne_true ho
    obtain ⟨b, off, rfl, hgs⟩ := hg.2.2 (by have := hg.1; omega)
    have hkn : (k : Int) < n := by have := hg.1; omega
    have HX := Lib.hid hx
    have HH := Lib.hid hh
    obtain ⟨kd, wd⟩ := x
    rw [hgx] at HC
    clear hx hgx hh hg hhas hS hT hp2 ho
    generalize gFirst gs secs k = F at *
    go_enter Tryz.func52, Tryz.ntmps52
    go_wp2_with fail
    refine H.out.mono ?_
    rintro e w1 ⟨rfl, hb1⟩
    have hb2 := hb0.trans (hb1.mono (by simp; omega))
    obtain ⟨hc, hf⟩ := bcell hb1
    have k1 : w1.cell? ⟨w.heap.size, 0, none⟩ = some (.slice (some ⟨b, off, none⟩) n c) := by rw [hc _ _ (by simp; omega)]; simp
    have k2 : w1.cell? ⟨w.heap.size, 1, none⟩ = some (.int .i64 secs) := by rw [hc _ _ (by simp; omega)]; simp
    have k3 : w1.cell? ⟨w.heap.size + 1, 0, none⟩ = some (.int .i64 k) := by rw [hc _ _ (by simp)]; simp
    have k4 : w1.cell? ⟨w.heap.size + 1, 1, none⟩ = some (.int .i64 pa) := by rw [hc _ _ (by simp)]; simp
    obtain ⟨k5, k6⟩ := (hgs.below hb2 (Nat.le_refl _)).2 k _ HX.out
    have hlt := hgs.1
    have hsz : w.heap.size + 2 ≤ w1.heap.size := by have := hb1.size; simp at this; omega
    clear hc hf hb1 hb0 H
    have hh := HH.out
    go_wp2_with fail
    clear hh
    go_cut [8, 9] (fun s8 s9 wx => ∃ g : Nat, s8 = .pointer (some ⟨g, 0, none⟩) ∧ s9 = .int .i64 F ∧ wx.cell? ⟨g, 0, none⟩ = some (.int .i64 kd) ∧ wx.cell? ⟨g, 1, none⟩ = some (.int .i64 wd) ∧ wx.cell? ⟨w.heap.size + 1, 1, none⟩ = some (.int .i64 pa) ∧ Below w.heap.size w wx)
    case first =>
      go_region_held3 (fun W => W.cell? ⟨w.heap.size, 0, none⟩ = some (.slice (some ⟨b, off, none⟩) n c) ∧ W.cell? ⟨w.heap.size, 1, none⟩ = some (.int .i64 secs) ∧ W.cell? ⟨w.heap.size + 1, 0, none⟩ = some (.int .i64 k) ∧
          W.cell? ⟨w.heap.size + 1, 1, none⟩ = some (.int .i64 pa) ∧ W.cell? ⟨b, off + k * 2, none⟩ = some (.int .i64 kd) ∧ W.cell? ⟨b, off + k * 2 + 1, none⟩ = some (.int .i64 wd) ∧ w.heap.size + 2 ≤ W.heap.size ∧ Below w.heap.size w W)
        (first
          | exact keep_realloc (‹_ ∧ _ ∧ _ ∧ _ ∧ _ ∧ _ ∧ _ ∧ Below w.heap.size w _›).2.2.2.2.2.2.2 (‹_ ∧ _ ∧ _ ∧ _ ∧ _ ∧ _ ∧ _ ∧ Below w.heap.size w _›).2.2.2.2.2.2.1
          | exact Below.setCell (p := ⟨w1.heap.size, 1, none⟩) (Below.setCell (p := ⟨w1.heap.size, 0, none⟩) (‹_ ∧ _ ∧ _ ∧ _ ∧ _ ∧ _ ∧ _ ∧ Below w.heap.size w _›).2.2.2.2.2.2.2 (Nat.le_trans (Nat.le_add_right _ 2) hsz) _) (Nat.le_trans (Nat.le_add_right _ 2) hsz) _
          | exact keep_alloc (‹_ ∧ _ ∧ _ ∧ _ ∧ _ ∧ _ ∧ _ ∧ Below w.heap.size w _›).2.2.2.2.2.2.2 _
          | exact Below.setCell (keep_alloc (‹_ ∧ _ ∧ _ ∧ _ ∧ _ ∧ _ ∧ _ ∧ Below w.heap.size w _›).2.2.2.2.2.2.2 _) (by first | exact (‹_ ∧ _ ∧ _ ∧ _ ∧ _ ∧ _ ∧ _ ∧ Below w.heap.size w _›).2.2.2.2.2.2.2.size | (simp; omega)) _
          | (refine ⟨?_, ?_, ?_, ?_, ?_, ?_, ?_, ?_⟩ <;> first | assumption | exact hb2.drew | exact keep_cell (by assumption) (by assumption) (by omega) | exact keep_below (by assumption) (by assumption) | exact keep_size (by assumption) (by assumption))
          | (obtain ⟨t1, t2, t3, t4, t5, t6, t7, t8⟩ := ‹_ ∧ _ ∧ _ ∧ _ ∧ _ ∧ _ ∧ _ ∧ Below w.heap.size w _›
             refine ⟨?_, ?_, ?_, ?_, ?_, ?_, ?_, ?_⟩
             all_goals first | exact t8.alloc t8.size _ | exact (t8.setCell (p := ⟨w1.heap.size, 0, none⟩) (Nat.le_trans (Nat.le_add_right _ 2) hsz) _).setCell (p := ⟨w1.heap.size, 1, none⟩) (Nat.le_trans (Nat.le_add_right _ 2) hsz) _ | exact t8.setCell (by omega) _ | exact keep_realloc t8 t7 | exact far2 (by assumption) (by omega) | exact Nat.le_trans t7 (by simp [World.setCell]) | exact recell (by assumption) (by omega) | exact Nat.le_trans t7 (by simp) | (go_keep; done) | (simp; omega)))
        (first | (go_at_call 69; obtain ⟨s1, s2, s3, s4, s5, s6, s7, s8⟩ := ‹_ ∧ _ ∧ _ ∧ _ ∧ _ ∧ _ ∧ _ ∧ Below w.heap.size w _›; refine (H2.out _ s8).mono ?_; rintro e w2 ⟨rfl, hb3⟩; have h9 := Nat.le_trans s7 hb3.size; have hq1 := fun h => hb3.cell (p := ⟨w1.heap.size, 0, none⟩) h; have hq2 := fun h => hb3.cell (p := ⟨w1.heap.size, 1, none⟩) h; have hq3 := fun h => hb3.frozen (p := ⟨w1.heap.size, 0, none⟩) h; have hq4 := fun h => hb3.frozen (p := ⟨w1.heap.size, 1, none⟩) h; dsimp only at hq1 hq2 hq3 hq4))

      all_goals
        obtain ⟨t1, t2, t3, t4, t5, t6, t7, t8⟩ := ‹_ ∧ _ ∧ _ ∧ _ ∧ _ ∧ _ ∧ _ ∧ Below w.heap.size w _›
        go_wp2_with fail
        go_meet
        first
          | exact ⟨w2.heap.size, rfl, rfl, by simp, by simp, t4, t8⟩
          | (have u1 : w2.cell? ⟨w1.heap.size, 0, none⟩ = some (.int .i64 0) := (hq1 (by simp)).trans (by simp)
             have u2 : w2.cell? ⟨w1.heap.size, 1, none⟩ = some (.int .i64 0) := (hq2 (by simp)).trans (by simp)
             exact ⟨w1.heap.size, rfl, rfl, (set2 u1 u2).1, (set2 u1 u2).2, t4, t8⟩)
    case rest =>
      obtain ⟨g, rfl, rfl, g1, g2, g3, g4⟩ := hcut
      obtain ⟨hF1, hF2⟩ := hfirst.out
      obtain ⟨sz, rfl⟩ := Int.eq_ofNat_of_zero_le (show 0 ≤ size by omega)
      have hsz4 : sz ≤ 4 := by omega
      rcases ho' with ⟨e, hw1, hw2⟩ | ⟨e, hw1, hw2⟩
      · subst e
        obtain ⟨wn, rfl⟩ := Int.eq_ofNat_of_zero_le (show 0 ≤ wd by omega)
        go_wp2_with fail
        refine (mirror_any F pa wn sz _ hF1 hF2 hp1 hp3 (by omega) hsz4).mono ?_
        rintro e w3 ⟨v, rfl, hown, hb5⟩
        go_wp2_with fail
        go_ret2
        refine ⟨v, ret2i hl.out.2.symm, ?_, g4.trans (hb5.mono g4.size)⟩
        rw [hl.out.1, HC.out]
        exact own_mono hown g4.size
      · subst e
        go_wp2_with fail
        refine (parity_any F wd pa sz _ hF1 hF2 hp1 hp3 hw1 hw2 hsz4).mono ?_
        rintro e w3 ⟨v, rfl, hown, hb5⟩
        go_wp2_with fail
        go_ret2
        refine ⟨v, ret2i hl.out.2.symm, ?_, g4.trans (hb5.mono g4.size)⟩
        rw [hl.out.1, HC.out]
        exact own_mono hown g4.size
  · have hh' : cMay gs secs pg pa size = false := by simpa using hh
    have hl : Hid (ofList gs secs pg pa size = [] ∧ ofErr gs secs pg pa size = 1) := by unfold Hid ofList ofErr; rw [hh']; exact ⟨rfl, rfl⟩
    have HH := Lib.hid hh'
    clear hh hh' hg
    go_enter Tryz.func52, Tryz.ntmps52
    go_wp2_with fail
    refine H.out.mono ?_
    rintro e w1 ⟨rfl, hb1⟩
    have hb2 := hb0.trans (hb1.mono (by simp; omega))
    have hh := HH.out
    go_wp2_with fail
    go_ret2
    refine ⟨_, ret2i hl.out.2.symm, ?_, hb2⟩
    rw [hl.out.1]
    exact World.ownsRow_nil _ _ _ _
end Go.Proofs.YtidmbibpoldgcaaGreatDoor

namespace Go.Proofs.YtidmbibpoldgcaaGreatDoor
open Go.RowKit

theorem u32L_in {x : Int} (h0 : 0 ≤ x) (h1 : x ≤ 4294967295) : u32L x = layL x.toNat 4 := by
  unfold u32L
  first | rw [if_pos ⟨h0, h1⟩] | (split <;> first | rfl | omega)
theorem layOk_bd {p : PtrD} (h : layOk p = true) : (0 ≤ p.ag ∧ p.ag ≤ 4294967295) ∧ (0 ≤ p.aa ∧ p.aa ≤ 4294967295) ∧ (0 ≤ p.bg ∧ p.bg ≤ 4294967295) ∧ (0 ≤ p.ba ∧ p.ba ≤ 4294967295) ∧ (0 ≤ p.birth ∧ p.birth ≤ 4294967295) ∧
    (0 ≤ p.size ∧ p.size ≤ 255) ∧ (0 ≤ p.level ∧ p.level ≤ 255) := by
  simp only [layOk, withinL, List.all_cons, List.all_nil, Bool.and_true, Bool.and_eq_true, decide_eq_true_eq] at h
  obtain ⟨⟨h1, h2, h3, h4, h5⟩, h6, h7⟩ := h
  exact ⟨h1, h2, h3, h4, h5, h6, h7⟩
theorem ptrOne_bd {p : PtrD} (h : layOk p = true) : 0 ≤ ptrOne p ∧ ptrOne p ≤ 4294967295 := by
  obtain ⟨_, _, _, _, _, _, _⟩ := layOk_bd h
  unfold ptrOne; split <;> omega
theorem ptrL_eq {p : PtrD} (h : layOk p = true) : ptrL p = (layL p.ag.toNat 4 ++ (layL p.aa.toNat 4 ++ (layL p.bg.toNat 4 ++ (layL p.ba.toNat 4 ++ (layL (ptrOne p).toNat 4 ++ (layL p.birth.toNat 4 ++
    (layL p.s0 8 ++ (layL p.s1 8 ++ (layL p.s2 8 ++ layL p.s3 8))))))))) ++ List.replicate 8 0 := by
  obtain ⟨⟨a1, a2⟩, ⟨b1, b2⟩, ⟨c1, c2⟩, ⟨d1, d2⟩, ⟨e1, e2⟩, _, _⟩ := layOk_bd h
  obtain ⟨o1, o2⟩ := ptrOne_bd h
  have hb : smallL [p.ag, p.aa, p.bg, p.ba, ptrOne p, p.birth] ++ sumL [p.s0, p.s1, p.s2, p.s3] = (layL p.ag.toNat 4 ++ (layL p.aa.toNat 4 ++ (layL p.bg.toNat 4 ++ (layL p.ba.toNat 4 ++ (layL (ptrOne p).toNat 4 ++ (layL p.birth.toNat 4 ++
      (layL p.s0 8 ++ (layL p.s1 8 ++ (layL p.s2 8 ++ layL p.s3 8))))))))) := by
    unfold smallL sumL
    simp only [List.flatMap_cons, List.flatMap_nil, List.append_nil, List.append_assoc]
    rw [u32L_in a1 a2, u32L_in b1 b2, u32L_in c1 c2, u32L_in d1 d2, u32L_in o1 o2, u32L_in e1 e2]
  have hl : (smallL [p.ag, p.aa, p.bg, p.ba, ptrOne p, p.birth] ++ sumL [p.s0, p.s1, p.s2, p.s3]).length = 56 := by
    rw [hb]; simp [layL_len]
  unfold ptrL padL
  rw [if_pos (by decide), hl, hb]
  rfl
theorem ptrL_inj {p q : PtrD} (hp : layOk p = true) (hq : layOk q = true) (op : p.Ok) (oq : q.Ok) (h : ptrL p = ptrL q) : p = q := by
  rw [ptrL_eq hp, ptrL_eq hq] at h
  have h := List.append_inj_left' h rfl
  obtain ⟨e1, h⟩ := List.append_inj h (by simp [layL_len])
  obtain ⟨e2, h⟩ := List.append_inj h (by simp [layL_len])
  obtain ⟨e3, h⟩ := List.append_inj h (by simp [layL_len])
  obtain ⟨e4, h⟩ := List.append_inj h (by simp [layL_len])
  obtain ⟨e5, h⟩ := List.append_inj h (by simp [layL_len])
  obtain ⟨e6, h⟩ := List.append_inj h (by simp [layL_len])
  obtain ⟨e7, h⟩ := List.append_inj h (by simp [layL_len])
  obtain ⟨e8, h⟩ := List.append_inj h (by simp [layL_len])
  obtain ⟨e9, e10⟩ := List.append_inj h (by simp [layL_len])
  obtain ⟨⟨a1, a2⟩, ⟨b1, b2⟩, ⟨c1, c2⟩, ⟨d1, d2⟩, ⟨g1, g2⟩, ⟨i1, i2⟩, ⟨j1, j2⟩⟩ := layOk_bd hp
  obtain ⟨o1, o2⟩ := ptrOne_bd hp
  obtain ⟨⟨a3, a4⟩, ⟨b3, b4⟩, ⟨c3, c4⟩, ⟨d3, d4⟩, ⟨g3, g4⟩, ⟨i3, i4⟩, ⟨j3, j4⟩⟩ := layOk_bd hq
  obtain ⟨o3, o4⟩ := ptrOne_bd hq
  obtain ⟨p0, p1, p2, p3, _⟩ := op
  obtain ⟨q0, q1, q2, q3, _⟩ := oq
  have f1 := layL_inj (n := 4) (by omega) (by omega) e1
  have f2 := layL_inj (n := 4) (by omega) (by omega) e2
  have f3 := layL_inj (n := 4) (by omega) (by omega) e3
  have f4 := layL_inj (n := 4) (by omega) (by omega) e4
  have f5 := layL_inj (n := 4) (by omega) (by omega) e5
  have f6 := layL_inj (n := 4) (by omega) (by omega) e6
  have f7 := layL_inj (n := 8) (by omega) (by omega) e7
  have f8 := layL_inj (n := 8) (by omega) (by omega) e8
  have f9 := layL_inj (n := 8) (by omega) (by omega) e9
  have f10 := layL_inj (n := 8) (by omega) (by omega) e10
  have g5 : ptrOne p = ptrOne q := by omega
  have k1 : p.ag = q.ag := by omega
  have k2 : p.aa = q.aa := by omega
  have k3 : p.bg = q.bg := by omega
  have k4 : p.ba = q.ba := by omega
  have k6 : p.birth = q.birth := by omega
  have t : p.two = q.two ∧ p.size = q.size ∧ p.level = q.level := by
    clear k1 k2 k3 k4 k6 f1 f2 f3 f4 f5 f6 f7 f8 f9 f10 e1 e2 e3 e4 e5 e6 e7 e8 e9 e10 hp hq h o1 o2 o3 o4
    unfold ptrOne at g5
    cases hx : p.two <;> cases hy : q.two <;> simp only [hx, hy, Bool.false_eq_true, if_true, if_false, Int.add_zero] at g5 <;> refine ⟨?_, ?_, ?_⟩ <;> first | rfl | omega
  obtain ⟨t1, t2, t3⟩ := t
  cases p; cases q
  simp only at *
  subst k1 k2 k3 k4 k6 t1 t2 t3 f7 f8 f9 f10
  rfl
theorem ptrL_iff {p q : PtrD} (hp : layOk p = true) (hq : layOk q = true) (op : p.Ok) (oq : q.Ok) : decide (ptrL p = ptrL q) = ptrEq p q := by
  unfold ptrEq
  by_cases h : p = q
  · subst h; simp
  · rw [decide_eq_false h, decide_eq_false fun e => h (ptrL_inj hp hq op oq e)]

/-- Two stretches are apart; a pointer is right. -/
def apB (gs : List (Int × Int)) (secs ag aa bg ba size : Int) : Bool := (ag != bg) || (decide (aa + gTakes gs secs ag size ≤ ba) || decide (ba + gTakes gs secs bg size ≤ aa))
def rightB (gs : List (Int × Int)) (secs : Int) (p : PtrD) : Bool :=
  decide (0 ≤ p.level) && decide (p.level ≤ 3) && decide (1 ≤ p.birth) && decide (p.birth ≤ 4294967295) && cMay gs secs p.ag p.aa p.size &&
    (if p.two then cMay gs secs p.bg p.ba p.size && apB gs secs p.ag p.aa p.bg p.ba p.size else p.bg == 0 && p.ba == 0)
theorem cMay_bd {gs : List (Int × Int)} {secs pg pa size : Int} (h : cMay gs secs pg pa size = true) : 0 ≤ pg ∧ pg ≤ 4 ∧ 0 ≤ pa ∧ pa ≤ 100000 ∧ 1 ≤ size ∧ size ≤ 4 := by
  obtain ⟨hhas, hz1, hz2, hp1, hp2, _⟩ := cMay_true h
  have hS := gSectors_bd gs secs pg
  have hT := gTakes_bd gs secs pg size
  obtain ⟨k, x, rfl, hk, hl4, _⟩ := gHas_true hhas
  omega
theorem right_pure {gs : List (Int × Int)} {secs : Int} {p : PtrD} (h : rightB gs secs p = true) : noneB p = false ∧ layOk p = true ∧ (p.two = true → (p.ag == p.bg && p.aa == p.ba) = false) := by
  simp only [rightB, Bool.and_eq_true, decide_eq_true_eq] at h
  obtain ⟨⟨⟨⟨⟨h1, h2⟩, h3⟩, h4⟩, h5⟩, h6⟩ := h
  have b := cMay_bd h5
  obtain ⟨_, _, _, _, _, ht⟩ := cMay_true h5
  refine ⟨?_, ?_, ?_⟩
  · unfold noneB ptrEq
    rw [decide_eq_false]
    intro e
    have : p.birth = 0 := by rw [e]; rfl
    omega
  · simp only [layOk, withinL, List.all_cons, List.all_nil, Bool.and_true, Bool.and_eq_true, decide_eq_true_eq]
    cases ht2 : p.two with
    | true =>
      rw [ht2, if_pos rfl, Bool.and_eq_true] at h6
      have b2 := cMay_bd h6.1
      omega
    | false =>
      rw [ht2, if_neg (by simp)] at h6
      simp at h6
      omega
  · intro ht2
    rw [ht2, if_pos rfl, Bool.and_eq_true] at h6
    obtain ⟨_, h7⟩ := h6
    simp only [apB, Bool.or_eq_true, decide_eq_true_eq] at h7
    rw [Bool.and_eq_false_iff]
    by_cases e1 : p.ag = p.bg
    · right
      rw [← e1] at h7
      simp only [bne_self_eq_false, Bool.false_eq_true, false_or] at h7
      simp; omega
    · left; simp [e1]
end Go.Proofs.YtidmbibpoldgcaaGreatDoor

namespace Go.Proofs.YtidmbibpoldgcaaGreatDoor
open Go.RowKit
set_option linter.unusedVariables false

/-- Block b is a reader of the bytes l that stands at p. -/
def RdAt (w : World) (b : Nat) (l : List UInt8) (p : Nat) : Prop := w.heap[b]? = some (.cells #[str l, .int .i64 p] 106 (0, 0)) ∧ p ≤ l.length ∧ l.length ≤ 140737488351232
theorem RdAt.lt {w : World} {b p : Nat} {l : List UInt8} (h : RdAt w b l p) : b < w.heap.size := lt_of_block h.1
theorem RdAt.c0 {w : World} {b p : Nat} {l : List UInt8} (h : RdAt w b l p) : w.cell? ⟨b, 0, none⟩ = some (str l) := cell_of_row w b 0 _ _ _ h.1
theorem RdAt.c1 {w : World} {b p : Nat} {l : List UInt8} (h : RdAt w b l p) : w.cell? ⟨b, 1, none⟩ = some (.int .i64 p) := cell_of_row w b 1 _ _ _ h.1
theorem RdAt.fr {w : World} {b p : Nat} {l : List UInt8} (h : RdAt w b l p) (i : Nat) : w.frozen? ⟨b, i, none⟩ = false := by simp [World.frozen?, h.1]
theorem RdAt.keep {w w' : World} {b p B : Nat} {l : List UInt8} (h : RdAt w b l p) (hb : Below B w w') (hB : b < B) : RdAt w' b l p := ⟨(hb.block b hB).trans h.1, h.2⟩
theorem RdAt.drewN {w : World} {b p : Nat} {l : List UInt8} (h : RdAt w b l p) (n : Nat) : RdAt (w.drewN n) b l p := h
theorem RdAt.put {w : World} {b p q : Nat} {l : List UInt8} (h : RdAt w b l p) (hq : q ≤ l.length) : RdAt (w.setCell ⟨b, 1, none⟩ (.int .i64 q)) b l q := by
  refine ⟨?_, hq, h.2.2⟩
  have h1 := h.1
  simp [World.setCell, Array.getElem?_modify, h1]
/-- Only block b, and what is new, has turned. -/
theorem only_put {a w : World} {b : Nat} (h : a.grownBy w (some b)) (v : Value) : a.grownBy (w.setCell ⟨b, 1, none⟩ v) (some b) :=
  ⟨h.os, h.tape, h.output, by simpa [World.setCell] using h.size, fun i hi hne => (Below.heap_setCell w ⟨b, 1, none⟩ v i (by rintro rfl; exact hne rfl)).trans (h.block i hi hne)⟩
theorem only_drewN {a w : World} {row : Option Nat} (h : a.grownBy w row) (n : Nat) : a.grownBy (w.drewN n) row := ⟨h.os, h.tape, h.output, h.size, h.block⟩

theorem new_any (l : List UInt8) (w : World) (hl : l.length ≤ 140737488351232) :
    Calls Tryz.prog 26 #[str l] w fun e w' => e = .returned (.pointer (some ⟨w.heap.size, 0, none⟩)) ∧ RdAt w' w.heap.size l 0 ∧ Below w.heap.size w w' := by
  go_enter Tryz.func26, Tryz.ntmps26
  go_wp2_with fail
  go_ret
  exact ⟨rfl, ⟨heap_alloc_new w _, Nat.zero_le _, hl⟩, (Below.refl _ _).alloc (Nat.le_refl _) _⟩

theorem left_any (b p : Nat) (l : List UInt8) (w : World) (h : RdAt w b l p) :
    Calls Tryz.prog 58 #[.pointer (some ⟨b, 0, none⟩)] w fun e w' => e = .returned (.int .i64 ((l.length : Int) - p)) ∧ ∃ n, w' = w.drewN n := by
  have c0 := h.c0
  have c1 := h.c1
  have hp := h.2.1
  have hl := h.2.2
  have e1 : IntKind.i64.wrap ((l.length : Int) - p) = (l.length : Int) - p := by rw [IntKind.wrap_i64]; omega
  clear h
  go_enter Tryz.func58, Tryz.ntmps58
  go_wp2_with fail
  go_quiet (fail)
  go_wp2_with fail
  go_ret
  exact ⟨rfl, nq, rfl⟩

theorem rd_extract (l : List UInt8) (p m : Nat) : (ByteArray.mk l.toArray).extract p (p + m) = ⟨((l.drop p).take m).toArray⟩ := by
  apply ByteArray.ext
  rw [ByteArray.data_extract]
  simp [List.extract_eq_take_drop]

def tkErr (l : List UInt8) (p : Nat) (n : Int) : Int := if n < 0 then 1 else if (l.length : Int) - p < n then 2 else 0
def tkStr (l : List UInt8) (p : Nat) (n : Int) : List UInt8 := if tkErr l p n = 0 then (l.drop p).take n.toNat else []
def tkPos (l : List UInt8) (p : Nat) (n : Int) : Nat := if tkErr l p n = 0 then p + n.toNat else p

theorem take_any (b p : Nat) (l : List UInt8) (n : Int) (w : World) (h : RdAt w b l p) (hn : n ≤ 9223372036854775807) :
    Calls Tryz.prog 46 #[.pointer (some ⟨b, 0, none⟩), .int .i64 n] w fun e w' =>
      e = .returned (.tuple #[str (tkStr l p n), .int .i64 (tkErr l p n)]) ∧ RdAt w' b l (tkPos l p n) ∧ w.grownBy w' (some b) := by
  have HL := Lib.hid (left_any b p l w h)
  have HR := Lib.hid h
  by_cases hneg : n < 0
  · have he : Hid (tkErr l p n = 1) := by unfold Hid tkErr; rw [if_pos hneg]
    have hs : Hid (tkStr l p n = [] ∧ tkPos l p n = p) := by unfold Hid tkStr tkPos; rw [he.out]; exact ⟨rfl, rfl⟩
    clear h
    go_enter Tryz.func46, Tryz.ntmps46
    go_wp2_with fail
    go_ret2
    rw [he.out, hs.out.1, hs.out.2]
    exact ⟨rfl, HR.out, World.grownBy.refl _ _⟩
  · obtain ⟨m, rfl⟩ := Int.eq_ofNat_of_zero_le (show 0 ≤ n by omega)
    by_cases hlt : (l.length : Int) - p < m
    · have he : Hid (tkErr l p m = 2) := by unfold Hid tkErr; rw [if_neg hneg, if_pos hlt]
      have hs : Hid (tkStr l p m = [] ∧ tkPos l p m = p) := by unfold Hid tkStr tkPos; rw [he.out]; exact ⟨rfl, rfl⟩
      clear h hneg
      go_enter Tryz.func46, Tryz.ntmps46
      go_wp2_with fail
      refine HL.out.mono ?_
      rintro e w' ⟨rfl, k, rfl⟩
      go_wp2_with fail
      go_ret2
      rw [he.out, hs.out.1, hs.out.2]
      exact ⟨rfl, HR.out.drewN k, only_drewN (World.grownBy.refl _ _) k⟩
    · have he : Hid (tkErr l p m = 0) := by unfold Hid tkErr; rw [if_neg hneg, if_neg hlt]
      have hs : Hid (tkStr l p m = (l.drop p).take m ∧ tkPos l p m = p + m) := by unfold Hid tkStr tkPos; rw [he.out]; exact ⟨rfl, rfl⟩
      have c0 := h.c0
      have c1 := h.c1
      have f1 := h.fr 1
      have hp := h.2.1
      have hl := h.2.2
      have hpm : p + m ≤ l.length := by omega
      have hi1 : (p : Int) + m ≤ l.length := by omega
      have w1 : IntKind.i64.wrap ((p : Int) + m - m) = p := by rw [IntKind.wrap_i64]; omega
      clear h hneg
      go_enter Tryz.func46, Tryz.ntmps46
      go_wp2_with fail
      refine HL.out.mono ?_
      rintro e w' ⟨rfl, k, rfl⟩
      go_wp2_with fail
      have hR2 : RdAt ((w.drewN k).setCell ⟨b, 1, none⟩ (.int .i64 ((p : Int) + m))) b l (p + m) := (HR.out.drewN k).put hpm
      have hG : w.grownBy ((w.drewN k).setCell ⟨b, 1, none⟩ (.int .i64 ((p : Int) + m))) (some b) := only_put (only_drewN (World.grownBy.refl _ _) k) _
      have g0 := hR2.c0
      have g1 : ((w.drewN k).setCell ⟨b, 1, none⟩ (.int .i64 ((p : Int) + m))).cell? ⟨b, 1, none⟩ = some (.int .i64 ((p : Int) + m)) := hR2.c1
      have hR3 := Lib.hid hR2
      clear hR2 c0 c1 f1
      generalize (w.drewN k).setCell ⟨b, 1, none⟩ (.int .i64 ((p : Int) + m)) = W at *
      have i1 : (0 : Int) ≤ p := by omega
      have i2 : (p : Int) ≤ p + m := by omega
      go_quiet (fail)
      go_wp2_with fail
      go_ret2
      rw [he.out, hs.out.1, hs.out.2]
      refine ⟨?_, hR3.out.drewN nq, only_drewN hG nq⟩
      exact congrArg (fun s => Ending.returned (.tuple #[Value.string s, .int .i64 0])) (rd_extract l p m)

/-- The number that the first k bytes from p on are. -/
def numTo (l : List UInt8) (p : Nat) : Nat → Int
  | 0 => 0
  | k + 1 => bits .or .u64 (numTo l p k) (IntKind.u64.wrap (IntKind.u64.wrap ((l.getD (p + k) 0).toNat : Int) * 2 ^ (8 * k)))

def nbErr (l : List UInt8) (p n : Nat) : Int := if (l.length : Int) - p < n then 2 else 0
def nbVal (l : List UInt8) (p n : Nat) : Int := if (l.length : Int) - p < n then 0 else numTo l p n
def nbPos (l : List UInt8) (p n : Nat) : Nat := if (l.length : Int) - p < n then p else p + n

theorem number_any (b p n : Nat) (l : List UInt8) (w : World) (h : RdAt w b l p) (hn : n ≤ 8) :
    Calls Tryz.prog 60 #[.pointer (some ⟨b, 0, none⟩), .int .i64 n] w fun e w' =>
      e = .returned (.tuple #[.int .u64 (nbVal l p n), .int .i64 (nbErr l p n)]) ∧ RdAt w' b l (nbPos l p n) ∧ w.grownBy w' (some b) := by
  have HL := Lib.hid (left_any b p l w h)
  have HR := Lib.hid h
  by_cases hlt : (l.length : Int) - p < n
  · have he : Hid (nbErr l p n = 2 ∧ nbVal l p n = 0 ∧ nbPos l p n = p) := by unfold Hid nbErr nbVal nbPos; rw [if_pos hlt, if_pos hlt, if_pos hlt]; exact ⟨rfl, rfl, rfl⟩
    clear h
    go_enter Tryz.func60, Tryz.ntmps60
    go_wp2_with fail
    refine HL.out.mono ?_
    rintro e w' ⟨rfl, k, rfl⟩
    go_wp2_with fail
    go_ret2
    rw [he.out.1, he.out.2.1, he.out.2.2]
    exact ⟨rfl, HR.out.drewN k, only_drewN (World.grownBy.refl _ _) k⟩
  · have he : Hid (nbErr l p n = 0 ∧ nbVal l p n = numTo l p n ∧ nbPos l p n = p + n) := by unfold Hid nbErr nbVal nbPos; rw [if_neg hlt, if_neg hlt, if_neg hlt]; exact ⟨rfl, rfl, rfl⟩
    have hp := h.2.1
    have hl := h.2.2
    have hpm : p + n ≤ l.length := by omega
    clear h
    go_enter Tryz.func60, Tryz.ntmps60
    go_wp2_with fail
    refine HL.out.mono ?_
    rintro e w' ⟨rfl, k0, rfl⟩
    go_wp2_with fail
    go_loopw [6, 13] (fun x t wr => ∃ k : Nat, k ≤ n ∧ t = .int .i64 k ∧ x = .int .u64 (numTo l p k) ∧ RdAt wr b l p ∧ w.grownBy wr (some b)) (fun _ t _ => n - (RowKit.intOf t).toNat)
    case atStart => exact ⟨0, Nat.zero_le _, rfl, rfl, HR.out.drewN k0, only_drewN (World.grownBy.refl _ _) k0⟩
    case round =>
      obtain ⟨k, hk, rfl, rfl, hR, hG⟩ := hrel
      have c0 := hR.c0
      have c1 := hR.c1
      have f1 := hR.fr 1
      have HR2 := Lib.hid hR
      clear hR
      by_cases hlt2 : k < n
      · have w1 : IntKind.i64.wrap ((p : Int) + k) = p + k := by rw [IntKind.wrap_i64]; omega
        have w2 : IntKind.i64.wrap (8 * (k : Int)) = 8 * k := by rw [IntKind.wrap_i64]; omega
        have i1 : (0 : Int) ≤ (p : Int) + k := by omega
        have i2 : (p : Int) + k < l.length := by omega
        go_wp2_with fail
        go_quiet (fail)
        go_wp2_with fail
        go_roundw
        case rel =>
          refine ⟨k + 1, by omega, by go_num, ?_, HR2.out.drewN nq, only_drewN hG nq⟩
          have hpk : p + k < l.length := by omega
          have hg : (ByteArray.mk l.toArray)[p + k]'(by rw [ba_size]; exact hpk) = l.getD (p + k) 0 := by
            rw [ba_get, List.getD_eq_getElem?_getD, List.getElem?_eq_getElem hpk]; rfl
          rw [hg]
          rfl
        case measure => simp [RowKit.intOf]; omega
      · obtain rfl : k = n := by omega
        go_wp2_with fail
        go_ret2
        rw [he.out.1, he.out.2.1, he.out.2.2]
        exact ⟨rfl, HR2.out.put hpm, only_put hG _⟩

theorem rdU64_any (b p : Nat) (l : List UInt8) (w : World) (h : RdAt w b l p) :
    Calls Tryz.prog 94 #[.pointer (some ⟨b, 0, none⟩)] w fun e w' =>
      e = .returned (.tuple #[.int .u64 (nbVal l p 8), .int .i64 (nbErr l p 8)]) ∧ RdAt w' b l (nbPos l p 8) ∧ w.grownBy w' (some b) := by
  have H := Lib.hid (number_any b p 8 l w h (by omega))
  clear h
  go_enter Tryz.func94, Tryz.ntmps94
  go_wp2_with fail
  refine H.out.mono ?_
  rintro e w' ⟨rfl, hR, hG⟩
  go_wp2_with fail
  go_ret2
  exact ⟨rfl, hR, hG⟩
end Go.Proofs.YtidmbibpoldgcaaGreatDoor
