/-
  Contracts of package cols: the columns of a block.
-/
import Derived.Test.YtkmmehhddagijaaGeom2
namespace Go.Proofs.Ytkmmehhddagijaa
open Go.RowKit
set_option linter.unusedVariables false

def cMay (gs : List (Int × Int)) (secs pg pa size : Int) : Bool := decide (0 < gTakes gs secs pg size) && (decide (0 ≤ pa) && decide (pa ≤ gSectors gs secs pg - gTakes gs secs pg size))

theorem gTakes_bd (gs : List (Int × Int)) (secs g size : Int) : 0 ≤ gTakes gs secs g size ∧ gTakes gs secs g size ≤ 8 := by
  unfold gTakes
  split
  · next h =>
    simp only [Bool.and_eq_true, decide_eq_true_eq] at h
    obtain ⟨⟨h1, h2⟩, h3⟩ := h
    obtain ⟨k, x, rfl, _, _, _, _, _, hgx, ho⟩ := gHas_true h1
    rw [hgx]
    obtain ⟨kd, wd⟩ := x
    unfold gTake1
    rcases gOne_true ho with ⟨e, hw1, hw2⟩ | ⟨e, hw1, hw2⟩
    · simp only at e; subst e; simp; omega
    · simp only at e hw1 hw2; subst e
      have := par_rows h2 h3 hw1 hw2
      simp; omega
  · omega
theorem gSectors_bd (gs : List (Int × Int)) (secs g : Int) : 0 ≤ gSectors gs secs g ∧ gSectors gs secs g ≤ 32768 := by
  unfold gSectors
  split
  · next h =>
    obtain ⟨k, x, rfl, _, _, _, _, _, hgx, ho⟩ := gHas_true h
    rw [hgx]
    obtain ⟨kd, wd⟩ := x
    rcases gOne_true ho with ⟨e, hw1, hw2⟩ | ⟨e, hw1, hw2⟩
    · simp only at e; subst e; simp; omega
    · simp only at e hw1 hw2; subst e
      have := mul_bd (a := secs - 16) (b := wd) (by omega) (by omega) (by omega) hw2
      simpa using this
  · omega

theorem may_any (A : Option Addr) (n c : Nat) (gs : List (Int × Int)) (secs pg pa size : Int) (w : World) (hg : GeoAt w A n gs) :
    Calls Try.prog 18 #[.agg #[.slice A n c, .int .i64 secs], .agg #[.int .i64 pg, .int .i64 pa], .int .i64 size] w fun e w' => e = .returned (.bool (cMay gs secs pg pa size)) ∧ Below w.heap.size w w' := by
  have hb0 : Below w.heap.size w ((w.alloc (Obj.cells #[Value.slice A n c, Value.int IntKind.i64 secs] 41)).alloc (Obj.cells #[Value.int IntKind.i64 pg, Value.int IntKind.i64 pa] 23)) :=
    ((Below.refl _ _).alloc (Nat.le_refl _) _).alloc (by simp) _
  have H := Lib.hid (takes_any A n c gs secs pg size _ (hg.below hb0 (Nat.le_refl _)))
  have H2 : Hid (∀ w1, Below w.heap.size w w1 → Calls Try.prog 29 #[.agg #[.slice A n c, .int .i64 secs], .int .i64 pg] w1 fun e w' => e = .returned (.int .i64 (gSectors gs secs pg)) ∧ Below w1.heap.size w1 w') :=
    Lib.hid fun w1 hb => sectors_any A n c gs secs pg w1 (hg.below hb (Nat.le_refl _))
  obtain ⟨ht1, ht2⟩ := gTakes_bd gs secs pg size
  obtain ⟨hs1, hs2⟩ := gSectors_bd gs secs pg
  clear hg
  have he : Hid (cMay gs secs pg pa size = (decide (0 < gTakes gs secs pg size) && (decide (0 ≤ pa) && decide (pa ≤ gSectors gs secs pg - gTakes gs secs pg size)))) := Lib.hid rfl
  generalize gTakes gs secs pg size = T at *
  generalize gSectors gs secs pg = S at *
  by_cases hpos : 0 < T ∧ 0 ≤ pa
  · obtain ⟨hp1, hp2⟩ := hpos
    go_enter Try.func18, Try.ntmps18
    go_wp2_with fail
    refine H.out.mono ?_
    rintro e w1 ⟨rfl, hb1⟩
    have hb2 := hb0.trans (hb1.mono (by simp; omega))
    obtain ⟨hc, hf⟩ := bcell hb1
    have k1 : w1.cell? ⟨w.heap.size, 0, none⟩ = some (.slice A n c) := by rw [hc _ _ (by simp; omega)]; simp
    have k2 : w1.cell? ⟨w.heap.size, 1, none⟩ = some (.int .i64 secs) := by rw [hc _ _ (by simp; omega)]; simp
    have k3 : w1.cell? ⟨w.heap.size + 1, 0, none⟩ = some (.int .i64 pg) := by rw [hc _ _ (by simp)]; simp
    have k4 : w1.cell? ⟨w.heap.size + 1, 1, none⟩ = some (.int .i64 pa) := by rw [hc _ _ (by simp)]; simp
    have hsz : w.heap.size + 2 ≤ w1.heap.size := by have := hb1.size; simp at this; omega
    clear hc hf hb1 hb0 H
    go_wp2_with fail
    go_region_held3 (fun W => W.cell? ⟨w.heap.size, 0, none⟩ = some (.slice A n c) ∧ W.cell? ⟨w.heap.size, 1, none⟩ = some (.int .i64 secs) ∧ W.cell? ⟨w.heap.size + 1, 0, none⟩ = some (.int .i64 pg) ∧
        W.cell? ⟨w.heap.size + 1, 1, none⟩ = some (.int .i64 pa) ∧ w.heap.size + 2 ≤ W.heap.size ∧ Below w.heap.size w W)
      (refine ⟨?_, ?_, ?_, ?_, ?_, ?_⟩ <;> first | assumption | exact hb2.drew | omega | exact keep_cell (by assumption) (by assumption) (by omega) | exact keep_below (by assumption) (by assumption) | exact keep_size (by assumption) (by assumption) | go_keep)
      (first | (go_at_call 29; obtain ⟨s1, s2, s3, s4, s5, s6⟩ := ‹_ ∧ _ ∧ _ ∧ _ ∧ _ ∧ Below w.heap.size w _›; refine (H2.out _ s6).mono ?_; rintro e w2 ⟨rfl, hb3⟩))
    go_wp2
    go_ret
    obtain ⟨_, _, _, _, _, h6⟩ := ‹_ ∧ _ ∧ _ ∧ _ ∧ _ ∧ Below w.heap.size w w2›
    have hw : IntKind.i64.wrap (S - T) = S - T := by rw [IntKind.wrap_i64]; omega
    refine ⟨ret_bool ?_, h6⟩
    rw [hw, he.out, decide_eq_true hp1, decide_eq_true hp2]
    rfl
  · have he2 : Hid (cMay gs secs pg pa size = false) := by
      unfold Hid; rw [he.out]
      by_cases h : 0 < T
      · have : ¬ 0 ≤ pa := by omega
        simp [this]
      · simp [h]
    clear he H2
    by_cases h : 0 < T
    · have hd : decide (0 ≤ pa) = false := by simp; omega
      have hd' : pa < 0 := by omega
      clear hpos
      go_enter Try.func18, Try.ntmps18
      go_wp2_with fail
      refine H.out.mono ?_
      rintro e w1 ⟨rfl, hb1⟩
      have hb2 := hb0.trans (hb1.mono (by simp; omega))
      obtain ⟨hc, hf⟩ := bcell hb1
      have k4 : w1.cell? ⟨w.heap.size + 1, 1, none⟩ = some (.int .i64 pa) := by rw [hc _ _ (by simp)]; simp
      clear hc hf
      go_wp2_with fail
      go_quiet (fail)
      go_wp2
      go_ret
      exact ⟨ret_bool he2.out.symm, below_drewN hb2 _⟩
    · have hd : decide (0 < T) = false := by simp; omega
      have hd' : T ≤ 0 := by omega
      clear hpos
      go_enter Try.func18, Try.ntmps18
      go_wp2_with fail
      refine H.out.mono ?_
      rintro e w1 ⟨rfl, hb1⟩
      have hb2 := hb0.trans (hb1.mono (by simp; omega))
      go_wp2_with fail
      go_quiet (fail)
      go_wp2
      go_ret
      exact ⟨ret_bool he2.out.symm, below_drewN hb2 _⟩
end Go.Proofs.Ytkmmehhddagijaa
