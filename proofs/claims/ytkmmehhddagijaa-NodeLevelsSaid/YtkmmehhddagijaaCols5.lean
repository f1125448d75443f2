/-
  Contracts of package cols, fifth part: Of.
-/
import Derived.Test.YtkmmehhddagijaaCols4
import Derived.Deep.DeepCutAuto
namespace Go.Proofs.Ytkmmehhddagijaa
open Go.RowKit
set_option linter.unusedVariables false

theorem keep_realloc {W w : World} {o o' : Obj} (h : Below w.heap.size w (W.alloc o)) (hB : w.heap.size + 2 ≤ (W.alloc o).heap.size) : Below w.heap.size w (W.alloc o') :=
  ⟨h.os, h.tape, h.output, by simp at hB ⊢; omega, fun k hk => by
    have h1 := h.block k hk
    have hk' : k < W.heap.size := by simp at hB; omega
    rw [Below.heap_alloc W o k hk'] at h1
    rw [Below.heap_alloc W o' k hk']
    exact h1⟩

theorem far2 {W : World} {g b k : Nat} {v x y : Value} (h : W.cell? ⟨b, k, none⟩ = some v) (hb : b ≠ g) : ((W.setCell ⟨g, 0, none⟩ x).setCell ⟨g, 1, none⟩ y).cell? ⟨b, k, none⟩ = some v := by
  rw [World.cell?_setCell_other _ _ _ _ (fun e => hb (by injection e with e; exact e.symm)), World.cell?_setCell_other _ _ _ _ (fun e => hb (by injection e with e; exact e.symm))]
  exact h
theorem own_mono {w : World} {base base' : Nat} {e : TypeId} {size : Nat} {v : Value} {n : Nat} {xs : List Value} (h : w.ownsRow base e size v n xs) (hb : base' ≤ base) : w.ownsRow base' e size v n xs :=
  ⟨h.1, by
    rcases h.2 with h | ⟨g, cap, cur, h1, h2, h3⟩
    · exact .inl h
    · exact .inr ⟨g, cap, cur, h1, by omega, h3⟩⟩
theorem set2 {W : World} {g : Nat} {a b x y : Value} (h0 : W.cell? ⟨g, 0, none⟩ = some a) (h1 : W.cell? ⟨g, 1, none⟩ = some b) :
    ((W.setCell ⟨g, 0, none⟩ x).setCell ⟨g, 1, none⟩ y).cell? ⟨g, 0, none⟩ = some x ∧ ((W.setCell ⟨g, 0, none⟩ x).setCell ⟨g, 1, none⟩ y).cell? ⟨g, 1, none⟩ = some y := by
  constructor
  · rw [World.cell?_setCell_other _ _ _ _ (by simp)]
    exact World.cell?_setCell_same _ _ _ h0
  · exact World.cell?_setCell_same _ _ _ ((World.cell?_setCell_other _ _ _ _ (by simp)).trans h1)
theorem ret2i {k : IntKind} {v : Value} {a b : Int} (h : a = b) : Ending.returned (.tuple #[v, .int k a]) = .returned (.tuple #[v, .int k b]) := by rw [h]
theorem recell {W : World} {o o2 : Obj} {b k : Nat} {v : Value} (h : (W.alloc o).cell? ⟨b, k, none⟩ = some v) (hb : b < W.heap.size) : (W.alloc o2).cell? ⟨b, k, none⟩ = some v := by
  rw [World.cell?_alloc_lt W o2 _ hb, ← World.cell?_alloc_lt W o _ hb]; exact h

theorem cMay_true {gs : List (Int × Int)} {secs pg pa size : Int} (h : cMay gs secs pg pa size = true) :
    gHas gs secs pg = true ∧ 1 ≤ size ∧ size ≤ 4 ∧ 0 ≤ pa ∧ pa ≤ gSectors gs secs pg - gTakes gs secs pg size ∧ 0 < gTakes gs secs pg size := by
  simp only [cMay, Bool.and_eq_true, decide_eq_true_eq] at h
  obtain ⟨h1, h2, h3⟩ := h
  have ht := h1
  unfold gTakes at ht
  split at ht
  · next hc =>
    simp only [Bool.and_eq_true, decide_eq_true_eq] at hc
    exact ⟨hc.1.1, hc.1.2, hc.2, h2, h3, h1⟩
  · omega

def ofList (gs : List (Int × Int)) (secs pg pa size : Int) : List Col := if cMay gs secs pg pa size then colsOf gs secs pg pa size else []
def ofErr (gs : List (Int × Int)) (secs pg pa size : Int) : Int := if cMay gs secs pg pa size then 0 else 1

set_option maxHeartbeats 1600000 in
theorem of_any (A : Option Addr) (n c : Nat) (gs : List (Int × Int)) (secs pg pa size : Int) (w : World) (hg : GeoAt w A n gs) :
    Calls Try.prog 15 #[.agg #[.slice A n c, .int .i64 secs], .agg #[.int .i64 pg, .int .i64 pa], .int .i64 size] w fun e w' =>
      ∃ v, e = .returned (.tuple #[v, .int .i64 (ofErr gs secs pg pa size)]) ∧
        w'.ownsRow w.heap.size 81 4 v (ofList gs secs pg pa size).length (colsCells (ofList gs secs pg pa size)) ∧ Below w.heap.size w w' := by
  have hb0 : Below w.heap.size w ((w.alloc (Obj.cells #[Value.slice A n c, Value.int IntKind.i64 secs] 41)).alloc (Obj.cells #[Value.int IntKind.i64 pg, Value.int IntKind.i64 pa] 23)) :=
    ((Below.refl _ _).alloc (Nat.le_refl _) _).alloc (by simp) _
  have H := Lib.hid (may_any A n c gs secs pg pa size _ (hg.below hb0 (Nat.le_refl _)))
  by_cases hh : cMay gs secs pg pa size = true
  · have hl : Hid (ofList gs secs pg pa size = colsOf gs secs pg pa size ∧ ofErr gs secs pg pa size = 0) := by unfold Hid ofList ofErr; rw [hh]; exact ⟨rfl, rfl⟩
    obtain ⟨hhas, hz1, hz2, hp1, hp2, _⟩ := cMay_true hh
    have hS := gSectors_bd gs secs pg
    have hT := gTakes_bd gs secs pg size
    have hp3 : pa ≤ 100000 := by omega
    have H2 : Hid (∀ w1, Below w.heap.size w w1 → Calls Try.prog 19 #[.agg #[.slice A n c, .int .i64 secs], .int .i64 pg] w1 fun e w' => e = .returned (.int .i64 (gFirst gs secs pg)) ∧ Below w1.heap.size w1 w') :=
      Lib.hid fun w1 hb => first_any A n c gs secs pg w1 (hg.below hb (Nat.le_refl _))
    have hfirst : Hid (0 ≤ gFirst gs secs pg ∧ gFirst gs secs pg ≤ 100) := by
      unfold Hid gFirst; rw [hhas]
      have hr : gRight gs secs = true := by simp only [gHas, Bool.and_eq_true] at hhas; exact hhas.1.1
      have := sum_take_bd hr pg.toNat
      simp only [if_true]; omega
    have HC : Hid (colsOf gs secs pg pa size = if (grAt gs pg).1 == 0 then mirror (gFirst gs secs pg) pa (grAt gs pg).2.toNat size.toNat else parTo (gFirst gs secs pg) (grAt gs pg).2 pa size.toNat) := Lib.hid rfl
    obtain ⟨k, x, rfl, hk, hl4, hs1, hs2, hx, hgx, ho⟩ := gHas_true hhas
    have ho' := gOne_true ho
    obtain ⟨b, off, rfl, hgs⟩ := hg.2.2 (by have := hg.1; omega)
    have hkn : (k : Int) < n := by have := hg.1; omega
    have HX := Lib.hid hx
    have HH := Lib.hid hh
    obtain ⟨kd, wd⟩ := x
    rw [hgx] at HC
    clear hx hgx hh hg hhas hS hT hp2 ho
    generalize gFirst gs secs k = F at *
    go_enter Try.func15, Try.ntmps15
    go_wp2_with fail
    refine H.out.mono ?_
    rintro e w1 ⟨rfl, hb1⟩
    have hb2 := hb0.trans (hb1.mono (by simp; omega))
    obtain ⟨hc, hf⟩ := bcell hb1
    have k1 : w1.cell? ⟨w.heap.size, 0, none⟩ = some (.slice (some ⟨b, off, none⟩) n c) := by rw [hc _ _ (by simp; omega)]; simp
    have k2 : w1.cell? ⟨w.heap.size, 1, none⟩ = some (.int .i64 secs) := by rw [hc _ _ (by simp; omega)]; simp
    have k3 : w1.cell? ⟨w.heap.size + 1, 0, none⟩ = some (.int .i64 k) := by rw [hc _ _ (by simp)]; simp
    have k4 : w1.cell? ⟨w.heap.size + 1, 1, none⟩ = some (.int .i64 pa) := by rw [hc _ _ (by simp)]; simp
    obtain ⟨k5, k6⟩ := (hgs.below hb2 (Nat.le_refl _)).2 k _ HX.out
    have hlt := hgs.1
    have hsz : w.heap.size + 2 ≤ w1.heap.size := by have := hb1.size; simp at this; omega
    clear hc hf hb1 hb0 H
    have hh := HH.out
    go_wp2_with fail
    clear hh
    go_cut [8, 9] (fun s8 s9 wx => ∃ g : Nat, s8 = .pointer (some ⟨g, 0, none⟩) ∧ s9 = .int .i64 F ∧ wx.cell? ⟨g, 0, none⟩ = some (.int .i64 kd) ∧ wx.cell? ⟨g, 1, none⟩ = some (.int .i64 wd) ∧ wx.cell? ⟨w.heap.size + 1, 1, none⟩ = some (.int .i64 pa) ∧ Below w.heap.size w wx)
    case first =>
      go_region_held3 (fun W => W.cell? ⟨w.heap.size, 0, none⟩ = some (.slice (some ⟨b, off, none⟩) n c) ∧ W.cell? ⟨w.heap.size, 1, none⟩ = some (.int .i64 secs) ∧ W.cell? ⟨w.heap.size + 1, 0, none⟩ = some (.int .i64 k) ∧
          W.cell? ⟨w.heap.size + 1, 1, none⟩ = some (.int .i64 pa) ∧ W.cell? ⟨b, off + k * 2, none⟩ = some (.int .i64 kd) ∧ W.cell? ⟨b, off + k * 2 + 1, none⟩ = some (.int .i64 wd) ∧ w.heap.size + 2 ≤ W.heap.size ∧ Below w.heap.size w W)
        (first
          | exact keep_realloc (‹_ ∧ _ ∧ _ ∧ _ ∧ _ ∧ _ ∧ _ ∧ Below w.heap.size w _›).2.2.2.2.2.2.2 (‹_ ∧ _ ∧ _ ∧ _ ∧ _ ∧ _ ∧ _ ∧ Below w.heap.size w _›).2.2.2.2.2.2.1
          | exact Below.setCell (p := ⟨w1.heap.size, 1, none⟩) (Below.setCell (p := ⟨w1.heap.size, 0, none⟩) (‹_ ∧ _ ∧ _ ∧ _ ∧ _ ∧ _ ∧ _ ∧ Below w.heap.size w _›).2.2.2.2.2.2.2 (Nat.le_trans (Nat.le_add_right _ 2) hsz) _) (Nat.le_trans (Nat.le_add_right _ 2) hsz) _
          | exact keep_alloc (‹_ ∧ _ ∧ _ ∧ _ ∧ _ ∧ _ ∧ _ ∧ Below w.heap.size w _›).2.2.2.2.2.2.2 _
          | exact Below.setCell (keep_alloc (‹_ ∧ _ ∧ _ ∧ _ ∧ _ ∧ _ ∧ _ ∧ Below w.heap.size w _›).2.2.2.2.2.2.2 _) (by first | exact (‹_ ∧ _ ∧ _ ∧ _ ∧ _ ∧ _ ∧ _ ∧ Below w.heap.size w _›).2.2.2.2.2.2.2.size | (simp; omega)) _
          | (refine ⟨?_, ?_, ?_, ?_, ?_, ?_, ?_, ?_⟩ <;> first | assumption | exact hb2.drew | exact keep_cell (by assumption) (by assumption) (by omega) | exact keep_below (by assumption) (by assumption) | exact keep_size (by assumption) (by assumption))
          | (obtain ⟨t1, t2, t3, t4, t5, t6, t7, t8⟩ := ‹_ ∧ _ ∧ _ ∧ _ ∧ _ ∧ _ ∧ _ ∧ Below w.heap.size w _›
             refine ⟨?_, ?_, ?_, ?_, ?_, ?_, ?_, ?_⟩
             all_goals first | exact t8.alloc t8.size _ | exact (t8.setCell (p := ⟨w1.heap.size, 0, none⟩) (Nat.le_trans (Nat.le_add_right _ 2) hsz) _).setCell (p := ⟨w1.heap.size, 1, none⟩) (Nat.le_trans (Nat.le_add_right _ 2) hsz) _ | exact t8.setCell (by omega) _ | exact keep_realloc t8 t7 | exact far2 (by assumption) (by omega) | exact Nat.le_trans t7 (by simp [World.setCell]) | exact recell (by assumption) (by omega) | exact Nat.le_trans t7 (by simp) | (go_keep; done) | (simp; omega)))
        (first | (go_at_call 19; obtain ⟨s1, s2, s3, s4, s5, s6, s7, s8⟩ := ‹_ ∧ _ ∧ _ ∧ _ ∧ _ ∧ _ ∧ _ ∧ Below w.heap.size w _›; refine (H2.out _ s8).mono ?_; rintro e w2 ⟨rfl, hb3⟩; have h9 := Nat.le_trans s7 hb3.size; have hq1 := fun h => hb3.cell (p := ⟨w1.heap.size, 0, none⟩) h; have hq2 := fun h => hb3.cell (p := ⟨w1.heap.size, 1, none⟩) h; have hq3 := fun h => hb3.frozen (p := ⟨w1.heap.size, 0, none⟩) h; have hq4 := fun h => hb3.frozen (p := ⟨w1.heap.size, 1, none⟩) h; dsimp only at hq1 hq2 hq3 hq4))

      all_goals
        obtain ⟨t1, t2, t3, t4, t5, t6, t7, t8⟩ := ‹_ ∧ _ ∧ _ ∧ _ ∧ _ ∧ _ ∧ _ ∧ Below w.heap.size w _›
        go_wp2_with fail
        go_meet
        first
          | exact ⟨w2.heap.size, rfl, rfl, by simp, by simp, t4, t8⟩
          | (have u1 : w2.cell? ⟨w1.heap.size, 0, none⟩ = some (.int .i64 0) := (hq1 (by simp)).trans (by simp)
             have u2 : w2.cell? ⟨w1.heap.size, 1, none⟩ = some (.int .i64 0) := (hq2 (by simp)).trans (by simp)
             exact ⟨w1.heap.size, rfl, rfl, (set2 u1 u2).1, (set2 u1 u2).2, t4, t8⟩)
    case rest =>
      obtain ⟨g, rfl, rfl, g1, g2, g3, g4⟩ := hcut
      obtain ⟨hF1, hF2⟩ := hfirst.out
      obtain ⟨sz, rfl⟩ := Int.eq_ofNat_of_zero_le (show 0 ≤ size by omega)
      have hsz4 : sz ≤ 4 := by omega
      rcases ho' with ⟨e, hw1, hw2⟩ | ⟨e, hw1, hw2⟩
      · subst e
        obtain ⟨wn, rfl⟩ := Int.eq_ofNat_of_zero_le (show 0 ≤ wd by omega)
        go_wp2_with fail
        refine (mirror_any F pa wn sz _ hF1 hF2 hp1 hp3 (by omega) hsz4).mono ?_
        rintro e w3 ⟨v, rfl, hown, hb5⟩
        go_wp2_with fail
        go_ret2
        refine ⟨v, ret2i hl.out.2.symm, ?_, g4.trans (hb5.mono g4.size)⟩
        rw [hl.out.1, HC.out]
        exact own_mono hown g4.size
      · subst e
        go_wp2_with fail
        refine (parity_any F wd pa sz _ hF1 hF2 hp1 hp3 hw1 hw2 hsz4).mono ?_
        rintro e w3 ⟨v, rfl, hown, hb5⟩
        go_wp2_with fail
        go_ret2
        refine ⟨v, ret2i hl.out.2.symm, ?_, g4.trans (hb5.mono g4.size)⟩
        rw [hl.out.1, HC.out]
        exact own_mono hown g4.size
  · have hh' : cMay gs secs pg pa size = false := by simpa using hh
    have hl : Hid (ofList gs secs pg pa size = [] ∧ ofErr gs secs pg pa size = 1) := by unfold Hid ofList ofErr; rw [hh']; exact ⟨rfl, rfl⟩
    have HH := Lib.hid hh'
    clear hh hh' hg
    go_enter Try.func15, Try.ntmps15
    go_wp2_with fail
    refine H.out.mono ?_
    rintro e w1 ⟨rfl, hb1⟩
    have hb2 := hb0.trans (hb1.mono (by simp; omega))
    have hh := HH.out
    go_wp2_with fail
    go_ret2
    refine ⟨_, ret2i hl.out.2.symm, ?_, hb2⟩
    rw [hl.out.1]
    exact World.ownsRow_nil _ _ _ _
end Go.Proofs.Ytkmmehhddagijaa
