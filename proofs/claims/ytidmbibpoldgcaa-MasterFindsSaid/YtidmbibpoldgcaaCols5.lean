/-
  Contracts of package cols, fifth part: Of.
-/
import Derived.Test.YtidmbibpoldgcaaCols4
import Derived.Deep.DeepCutAuto
namespace Go.Proofs.Ytidmbibpoldgcaa
open Go.RowKit
set_option linter.unusedVariables false

theorem keep_realloc {W w : World} {o o' : Obj} (h : Below w.heap.size w (W.alloc o)) (hB : w.heap.size + 2 ≤ (W.alloc o).heap.size) : Below w.heap.size w (W.alloc o') :=
  ⟨h.os, h.tape, h.output, by simp at hB ⊢; omega, fun k hk => by
    have h1 := h.block k hk
    have hk' : k < W.heap.size := by simp at hB; omega
    rw [Below.heap_alloc W o k hk'] at h1
    rw [Below.heap_alloc W o' k hk']
    exact h1⟩

theorem far2 {W : World} {g b k : Nat} {v x y : Value} (h : W.cell? ⟨b, k, none⟩ = some v) (hb : b ≠ g) : ((W.setCell ⟨g, 0, none⟩ x).setCell ⟨g, 1, none⟩ y).cell? ⟨b, k, none⟩ = some v := by
  rw [World.cell?_setCell_other _ _ _ _ (fun e => hb (by injection e with e; exact e.symm)), World.cell?_setCell_other _ _ _ _ (fun e => hb (by injection e with e; exact e.symm))]
  exact h
theorem own_mono {w : World} {base base' : Nat} {e : TypeId} {size : Nat} {v : Value} {n : Nat} {xs : List Value} (h : w.ownsRow base e size v n xs) (hb : base' ≤ base) : w.ownsRow base' e size v n xs :=
  ⟨h.1, by
    rcases h.2 with h | ⟨g, cap, cur, h1, h2, h3⟩
    · exact .inl h
    · exact .inr ⟨g, cap, cur, h1, by omega, h3⟩⟩
theorem set2 {W : World} {g : Nat} {a b x y : Value} (h0 : W.cell? ⟨g, 0, none⟩ = some a) (h1 : W.cell? ⟨g, 1, none⟩ = some b) :
    ((W.setCell ⟨g, 0, none⟩ x).setCell ⟨g, 1, none⟩ y).cell? ⟨g, 0, none⟩ = some x ∧ ((W.setCell ⟨g, 0, none⟩ x).setCell ⟨g, 1, none⟩ y).cell? ⟨g, 1, none⟩ = some y := by
  constructor
  · rw [World.cell?_setCell_other _ _ _ _ (by simp)]
    exact World.cell?_setCell_same _ _ _ h0
  · exact World.cell?_setCell_same _ _ _ ((World.cell?_setCell_other _ _ _ _ (by simp)).trans h1)
theorem ret2i {k : IntKind} {v : Value} {a b : Int} (h : a = b) : Ending.returned (.tuple #[v, .int k a]) = .returned (.tuple #[v, .int k b]) := by rw [h]
theorem recell {W : World} {o o2 : Obj} {b k : Nat} {v : Value} (h : (W.alloc o).cell? ⟨b, k, none⟩ = some v) (hb : b < W.heap.size) : (W.alloc o2).cell? ⟨b, k, none⟩ = some v := by
  rw [World.cell?_alloc_lt W o2 _ hb, ← World.cell?_alloc_lt W o _ hb]; exact h

theorem cMay_true {gs : List (Int × Int)} {secs pg pa size : Int} (h : cMay gs secs pg pa size = true) :
    gHas gs secs pg = true ∧ 1 ≤ size ∧ size ≤ 4 ∧ 0 ≤ pa ∧ pa ≤ gSectors gs secs pg - gTakes gs secs pg size ∧ 0 < gTakes gs secs pg size := by
  simp only [cMay, Bool.and_eq_true, decide_eq_true_eq] at h
  obtain ⟨h1, h2, h3⟩ := h
  have ht := h1
  unfold gTakes at ht
  split at ht
  · next hc =>
    simp only [Bool.and_eq_true, decide_eq_true_eq] at hc
    exact ⟨hc.1.1, hc.1.2, hc.2, h2, h3, h1⟩
  · omega

def ofList (gs : List (Int × Int)) (secs pg pa size : Int) : List Col := if cMay gs secs pg pa size then colsOf gs secs pg pa size else []
def ofErr (gs : List (Int × Int)) (secs pg pa size : Int) : Int := if cMay gs secs pg pa size then 0 else 1

end Go.Proofs.Ytidmbibpoldgcaa
