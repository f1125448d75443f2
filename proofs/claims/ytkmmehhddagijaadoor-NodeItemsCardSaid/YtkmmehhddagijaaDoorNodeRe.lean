/-
  The contract of node.Read.
-/
import Derived.Test.YtkmmehhddagijaaDoorNodeX
namespace Go.Proofs.YtkmmehhddagijaaDoor
set_option linter.unusedVariables false
set_option linter.unusedSimpArgs false
open Go.RowKit

def nrBad (s : List UInt8) (lv : Int) : Prop := s = [] ∨ s.length % 64 ≠ 0 ∨ 256 < s.length ∨ (0 < lv ∧ s.length ≠ 256)
instance (s : List UInt8) (lv : Int) : Decidable (nrBad s lv) := by unfold nrBad; infer_instance
def nrE (s : List UInt8) (lv : Int) : Int := if lv < 0 ∨ 3 < lv then 1 else if nrBad s lv then 3 else if 0 < lv then idxE s else 0
def nrV (s : List UInt8) (lv : Int) : Value := if lv < 0 ∨ 3 < lv then .nilIface else if nrBad s lv then .nilIface else if 0 < lv then idxV s else .iface 39 (.agg #[str s])
theorem nr_1 {s : List UInt8} {lv : Int} (h : lv < 0 ∨ 3 < lv) : nrV s lv = .nilIface ∧ nrE s lv = 1 := by unfold nrV nrE; rw [if_pos h, if_pos h]; exact ⟨rfl, rfl⟩
theorem nr_3 {s : List UInt8} {lv : Int} (h : ¬ (lv < 0 ∨ 3 < lv)) (hb : nrBad s lv) : nrV s lv = .nilIface ∧ nrE s lv = 3 := by unfold nrV nrE; rw [if_neg h, if_neg h, if_pos hb, if_pos hb]; exact ⟨rfl, rfl⟩
theorem nr_i {s : List UInt8} {lv : Int} (h : ¬ (lv < 0 ∨ 3 < lv)) (hb : ¬ nrBad s lv) (hl : 0 < lv) : nrV s lv = idxV s ∧ nrE s lv = idxE s := by unfold nrV nrE; rw [if_neg h, if_neg h, if_neg hb, if_neg hb, if_pos hl, if_pos hl]; exact ⟨rfl, rfl⟩
theorem nr_d {s : List UInt8} {lv : Int} (h : ¬ (lv < 0 ∨ 3 < lv)) (hb : ¬ nrBad s lv) (hl : ¬ 0 < lv) : nrV s lv = .iface 39 (.agg #[str s]) ∧ nrE s lv = 0 := by unfold nrV nrE; rw [if_neg h, if_neg h, if_neg hb, if_neg hb, if_neg hl, if_neg hl]; exact ⟨rfl, rfl⟩

set_option maxRecDepth 100000 in
set_option maxHeartbeats 2000000 in
theorem nread_any (s : List UInt8) (lv : Int) (w : World) (hl : s.length ≤ 9223372036854775807) :
    Calls Tryd.prog 7 #[str s, .int .i64 lv] w fun e w' => e = .returned (.tuple #[nrV s lv, .int .i64 (nrE s lv)]) ∧ Below w.heap.size w w' := by
  by_cases h1 : lv < 0 ∨ 3 < lv
  · have hv := Lib.hid (nr_1 (s := s) h1)
    have h1' : lv < 0 ∨ (0 ≤ lv ∧ 3 < lv) := by omega
    clear h1
    rcases h1' with h1 | ⟨h1, h2⟩
    all_goals
      go_enter Tryd.func7, Tryd.ntmps7
      go_wp2_with fail
      go_ret2
      exact ⟨by rw [hv.out.1, hv.out.2]; rfl, Below.refl _ _⟩
  · have hlv1 : 0 ≤ lv := by omega
    have hlv2 : lv ≤ 3 := by omega
    by_cases hs0 : s = []
    · have hv := Lib.hid (nr_3 (s := s) h1 (.inl hs0))
      subst hs0
      clear h1
      go_enter Tryd.func7, Tryd.ntmps7
      go_wp2_with fail
      go_ret2
      exact ⟨by rw [hv.out.1, hv.out.2]; rfl, Below.refl _ _⟩
    · have hsb : (s == []) = false := by cases s with | nil => exact absurd rfl hs0 | cons _ _ => rfl
      have hse : s.isEmpty = false := by simpa using hs0
      by_cases hm : s.length % 64 ≠ 0
      · have hv := Lib.hid (nr_3 (s := s) h1 (.inr (.inl hm)))
        have hmb : (((s.length : Int) % 64) != 0) = true := by rw [bne_iff_ne]; omega
        clear h1 hs0 hm
        go_enter Tryd.func7, Tryd.ntmps7
        go_wp2_with fail
        go_ret2
        exact ⟨by rw [hv.out.1, hv.out.2]; rfl, Below.refl _ _⟩
      · have hmb : (((s.length : Int) % 64) != 0) = false := by rw [bne_eq_false_iff_eq]; omega
        by_cases hb : 256 < s.length
        · have hv := Lib.hid (nr_3 (s := s) h1 (.inr (.inr (.inl hb))))
          clear h1 hs0 hm
          go_enter Tryd.func7, Tryd.ntmps7
          go_wp2_with fail
          go_ret2
          exact ⟨by rw [hv.out.1, hv.out.2]; rfl, Below.refl _ _⟩
        · by_cases hp : 0 < lv
          · by_cases h256 : s.length = 256
            · have hnb : ¬ nrBad s lv := by unfold nrBad; simp only [hs0, false_or, not_or]; exact ⟨hm, hb, by omega⟩
              have hv := Lib.hid (nr_i h1 hnb hp)
              have hib := Lib.hid fun W => index_any s W h256
              have hne : ((s.length : Int) != 256) = false := by rw [bne_eq_false_iff_eq]; omega
              clear h1 hs0 hm hnb h256
              go_enter Tryd.func7, Tryd.ntmps7
              go_wp2_with fail
              refine (hib.out _).mono ?_
              rintro e w1 ⟨rfl, hb1⟩
              go_wp2_with fail
              go_ret2
              exact ⟨by rw [hv.out.1, hv.out.2]; rfl, hb1⟩
            · have hv := Lib.hid (nr_3 (s := s) h1 (.inr (.inr (.inr ⟨hp, h256⟩))))
              have hne : ((s.length : Int) != 256) = true := by rw [bne_iff_ne]; omega
              clear h1 hs0 hm h256
              go_enter Tryd.func7, Tryd.ntmps7
              go_wp2_with fail
              go_ret2
              exact ⟨by rw [hv.out.1, hv.out.2]; rfl, Below.refl _ _⟩
          · have hnb : ¬ nrBad s lv := by unfold nrBad; simp only [hs0, false_or, not_or]; exact ⟨hm, hb, by omega⟩
            have hv := Lib.hid (nr_d h1 hnb hp)
            clear h1 hs0 hm hnb
            go_enter Tryd.func7, Tryd.ntmps7
            go_wp2_with fail
            go_ret2
            exact ⟨by rw [hv.out.1, hv.out.2]; rfl, Below.refl _ _⟩
end Go.Proofs.YtkmmehhddagijaaDoor
