/-
  Plain words for ColsPlays: how many devices lie below a number.
-/
import Derived.Test.YthkeibeelncgkaaDevsQ
namespace Go.Proofs.Ythkeibeelncgkaa
open Go.RowKit

def cnt (D : List Int) (x : Int) : Nat := (D.filter (fun d => decide (d < x))).length
theorem cnt_zero {D : List Int} {x : Int} (h : ∀ d ∈ D, x ≤ d) : cnt D x = 0 := by
  unfold cnt
  rw [List.length_eq_zero_iff, List.filter_eq_nil_iff]
  intro d hd
  have := h d hd
  simp; omega
theorem cnt_all {D : List Int} {x : Int} (h : ∀ d ∈ D, d < x) : cnt D x = D.length := by
  unfold cnt
  rw [List.filter_eq_self.2]
  intro d hd
  simpa using h d hd
theorem cnt_le (D : List Int) (x : Int) : cnt D x ≤ D.length := List.length_filter_le _ _
theorem cnt_cons (d : Int) (D : List Int) (x : Int) : cnt (d :: D) x = (if d < x then 1 else 0) + cnt D x := by
  unfold cnt
  by_cases h : d < x
  · rw [List.filter_cons_of_pos (by simpa using h), if_pos h, List.length_cons]; omega
  · rw [List.filter_cons_of_neg (by simpa using h), if_neg h]; omega
theorem cnt_step : ∀ {D : List Int}, D.Pairwise (· < ·) → ∀ x : Int, (x ∈ D → D[cnt D x]? = some x ∧ cnt D (x + 1) = cnt D x + 1) ∧ (x ∉ D → cnt D (x + 1) = cnt D x)
  | [], _, x => ⟨fun h => absurd h (by simp), fun _ => rfl⟩
  | d :: D, h, x => by
    rw [List.pairwise_cons] at h
    obtain ⟨h1, h2⟩ := h
    obtain ⟨i1, i2⟩ := cnt_step h2 x
    rw [cnt_cons, cnt_cons]
    rcases Int.lt_trichotomy x d with hx | hx | hx
    · have z1 : cnt D x = 0 := cnt_zero fun e he => by have := h1 e he; omega
      have z2 : cnt D (x + 1) = 0 := cnt_zero fun e he => by have := h1 e he; omega
      rw [if_neg (by omega), if_neg (by omega), z1, z2]
      refine ⟨fun hm => ?_, fun _ => rfl⟩
      rcases List.mem_cons.1 hm with e | e
      · omega
      · have := h1 x e; omega
    · subst hx
      have z1 : cnt D x = 0 := cnt_zero fun e he => by have := h1 e he; omega
      have z2 : cnt D (x + 1) = 0 := cnt_zero fun e he => by have := h1 e he; omega
      rw [if_pos (show x < x + 1 by omega), if_neg (show ¬ x < x by omega), z1, z2]
      exact ⟨fun _ => ⟨rfl, rfl⟩, fun hm => absurd (List.mem_cons_self) hm⟩
    · rw [if_pos (by omega), if_pos (by omega)]
      refine ⟨fun hm => ?_, fun hm => ?_⟩
      · rcases List.mem_cons.1 hm with e | e
        · omega
        · obtain ⟨j1, j2⟩ := i1 e
          rw [show 1 + cnt D x = cnt D x + 1 from Nat.add_comm _ _, List.getElem?_cons_succ]
          exact ⟨j1, by omega⟩
      · rw [i2 fun he => hm (List.mem_cons_of_mem _ he)]

def hasTo (L : List Col) (x : Int) (k : Nat) : Bool := (L.take k).any fun c => c.1 == x
theorem hasTo_step {L : List Col} {x : Int} {k : Nat} {c : Col} (h : L[k]? = some c) : hasTo L x (k + 1) = (hasTo L x k || c.1 == x) := by
  unfold hasTo; rw [List.take_add_one, h]; simp
theorem hasTo_all (L : List Col) (x : Int) : hasTo L x L.length = decide (x ∈ devsL L) := by
  unfold hasTo
  rw [List.take_length]
  have := (devsL_spec L).2 x
  rw [Bool.eq_iff_iff, List.any_eq_true]
  simp [this]
theorem gFirst_devs {gs : List (Int × Int)} {secs : Int} {k : Nat} {z : Int × Int} (hh : gHas gs secs k = true) (hz : gs[k]? = some z) : gFirst gs secs k + z.2 ≤ gDevs gs secs := by
  have hr : gRight gs secs = true := gHas_right hh
  unfold gFirst gDevs
  rw [hh, hr]
  simp only [if_true, Int.toNat_natCast]
  have h1 : gSum (gs.take (k + 1)) = gSum (gs.take k) + z.2 := by
    unfold gSum; rw [List.take_add_one, hz]; simp
  have h2 : gSum gs = gSum (gs.take (k + 1)) + gSum (gs.drop (k + 1)) := by
    unfold gSum
    rw [← List.sum_append, ← List.map_append, List.take_append_drop]
  have h3 : 0 ≤ gSum (gs.drop (k + 1)) := by
    obtain ⟨_, _, _, _, hone⟩ := gRight_parts hr
    unfold gSum
    have hp : ∀ q ∈ gs.drop (k + 1), 0 ≤ q.2 := fun q hq => by
      have := gOne_true (hone q (List.mem_of_mem_drop hq))
      omega
    generalize gs.drop (k + 1) = M at hp
    induction M with
    | nil => simp
    | cons q M ih =>
      simp only [List.map_cons, List.sum_cons]
      have := hp q List.mem_cons_self
      have := ih fun r hr => hp r (List.mem_cons_of_mem _ hr)
      omega
  omega
end Go.Proofs.Ythkeibeelncgkaa
