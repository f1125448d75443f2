/-
  What is in a device's cache, in order; a crash, sector by sector. No program stands here.
-/
import Derived.Test.YtkaijdnaheikeaaDevM
namespace Go.Proofs.Ytkaijdnaheikeaa
set_option linter.unusedVariables false
set_option linter.unusedSimpArgs false

/-- The numbers below n that have something. -/
def hasL (p : Nat → Bool) (n : Nat) : List Nat := (List.range n).filter p
theorem hasL_succ (p : Nat → Bool) (n : Nat) : hasL p (n + 1) = if p n then hasL p n ++ [n] else hasL p n := by
  unfold hasL
  rw [List.range_succ, List.filter_append]
  cases h : p n <;> simp [h]
theorem hasL_at (p : Nat → Bool) : ∀ (n i k : Nat), (hasL p n)[i]? = some k → p k = true ∧ k < n ∧ (hasL p k).length = i
  | 0, i, k, h => by simp [hasL] at h
  | n + 1, i, k, h => by
    rw [hasL_succ] at h
    split at h
    · rename_i hp
      by_cases hi : i < (hasL p n).length
      · rw [List.getElem?_append_left hi] at h
        have := hasL_at p n i k h
        exact ⟨this.1, by omega, this.2.2⟩
      · rw [List.getElem?_append_right (by omega)] at h
        have h1 : i - (hasL p n).length = 0 := by
          cases hh : i - (hasL p n).length with
          | zero => rfl
          | succ m => rw [hh] at h; simp at h
        rw [h1] at h
        simp at h
        subst h
        exact ⟨hp, by omega, by omega⟩
    · have := hasL_at p n i k h
      exact ⟨this.1, by omega, this.2.2⟩
theorem hasL_rank (p : Nat → Bool) : ∀ (n k : Nat), k < n → p k = true → (hasL p n)[(hasL p k).length]? = some k
  | 0, k, h, _ => by omega
  | n + 1, k, h, hp => by
    rw [hasL_succ]
    by_cases e : k = n
    · subst e; rw [if_pos hp]; simp
    · have h1 := hasL_rank p n k (by omega) hp
      split
      · rw [List.getElem?_append_left (List.getElem?_eq_some_iff.1 h1).1]; exact h1
      · exact h1
theorem hasL_pair (p : Nat → Bool) (n : Nat) : (hasL p n).Pairwise (· < ·) := (List.pairwise_lt_range).filter _
theorem hasL_mem (p : Nat → Bool) (n k : Nat) : k ∈ hasL p n ↔ k < n ∧ p k = true := by simp [hasL]
theorem hasL_len (p : Nat → Bool) (n : Nat) : (hasL p n).length ≤ n := by
  have := List.length_filter_le p (List.range n)
  simpa [hasL] using this

namespace DevD
def pre (d : DevD) (k : Nat) : Bool := !(d.cac k).isEmpty
def keys (d : DevD) : List Nat := hasL d.pre d.med.length
theorem rank_eq (d : DevD) (k : Nat) : d.rank k = (hasL d.pre k).length := rfl
theorem keys_at {d : DevD} {i k : Nat} (h : d.keys[i]? = some k) : d.cac k ≠ [] ∧ k < d.med.length ∧ d.rank k = i := by
  have := hasL_at _ _ _ _ h
  refine ⟨fun e => ?_, this.2.1, this.2.2⟩
  have h1 := this.1
  simp [pre, e] at h1
/-- After the first m of the cache. -/
def crashed (d : DevD) (keep : List Int) (m : Nat) : DevD := { d with med := d.crashMed keep m, fuse := -1 }
theorem crashed_len (d : DevD) (keep : List Int) (m : Nat) : (d.crashed keep m).med.length = d.med.length := by simp [crashed, crashMed]
theorem crashMed_get (d : DevD) (keep : List Int) (m : Nat) {k : Nat} (hk : k < d.med.length) (h1 : k < (d.crashMed keep m).length) :
    (d.crashMed keep m)[k] = if (d.cac k).isEmpty = false ∧ d.rank k < m then pick keep (d.rank k) (d.cac k) d.med[k] else d.med[k] := by simp [crashMed]
theorem crashMed_zero (d : DevD) (keep : List Int) : d.crashMed keep 0 = d.med := by
  refine List.ext_getElem (by simp [crashMed]) fun k h1 h2 => ?_
  rw [crashMed_get d keep 0 h2, if_neg (by omega)]
/-- One more. -/
theorem crashMed_succ (d : DevD) (keep : List Int) {i k : Nat} (hi : d.keys[i]? = some k) (h : k < d.med.length) : d.crashMed keep (i + 1) = (d.crashMed keep i).set k (pick keep i (d.cac k) d.med[k]) := by
  have hk := keys_at hi
  refine List.ext_getElem (by simp [crashMed]) fun j h1 h2 => ?_
  have hj : j < d.med.length := by simpa [crashMed] using h1
  rw [crashMed_get d keep _ hj, List.getElem_set, crashMed_get d keep _ hj]
  by_cases e : k = j
  · subst e
    rw [if_pos rfl, if_pos ⟨by simpa using hk.1, by omega⟩, hk.2.2]
  · rw [if_neg e]
    by_cases hp : (d.cac j).isEmpty = false
    · have hr : d.rank j ≠ i := by
        intro hr
        have h3 := hasL_rank d.pre d.med.length j hj (by simp [pre, hp])
        rw [show (hasL d.pre j).length = i from hr] at h3
        exact e (Option.some.inj (hi.symm.trans h3))
      by_cases h4 : d.rank j < i
      · rw [if_pos ⟨hp, by omega⟩, if_pos ⟨hp, h4⟩]
      · rw [if_neg (by omega), if_neg (by omega)]
    · rw [if_neg (fun h => hp h.1), if_neg (fun h => hp h.1)]
/-- No more. -/
theorem crashMed_end (d : DevD) (keep : List Int) {i : Nat} (hi : keep.length ≤ i ∨ d.keys.length ≤ i) : d.crashMed keep i = d.crashMed keep d.med.length := by
  refine List.ext_getElem (by simp [crashMed]) fun j h1 h2 => ?_
  have hj : j < d.med.length := by simpa [crashMed] using h1
  rw [crashMed_get d keep _ hj, crashMed_get d keep _ hj]
  by_cases hp : (d.cac j).isEmpty = false
  · have h3 := hasL_rank d.pre d.med.length j hj (by simp [pre, hp])
    have h4 : d.rank j < d.keys.length := (List.getElem?_eq_some_iff.1 h3).1
    have h5 : d.keys.length ≤ d.med.length := hasL_len _ _
    by_cases h6 : d.rank j < i
    · rw [if_pos ⟨hp, h6⟩, if_pos ⟨hp, by omega⟩]
    · rw [if_neg (by omega), if_pos ⟨hp, by omega⟩]
      rcases hi with hi | hi
      · have : keep[d.rank j]? = none := List.getElem?_eq_none (by omega)
        unfold pick
        rw [this]
      · omega
  · rw [if_neg (fun h => hp h.1), if_neg (fun h => hp h.1)]
theorem crash_eq (d : DevD) (keep : List Int) (hl : d.lost = false) {i : Nat} (hi : keep.length ≤ i ∨ d.keys.length ≤ i) : d.crash keep = { d.crashed keep i with cac := fun _ => [] } := by
  unfold crash crashed
  rw [if_neg (by simp [hl]), crashMed_end d keep hi]
theorem crashed_set (d : DevD) (keep : List Int) {i k : Nat} (hi : d.keys[i]? = some k) : d.crashed keep (i + 1) = { d.crashed keep i with med := (d.crashed keep i).med.set k (pick keep i (d.cac k) (d.med.getD k [])) } := by
  have hk := (keys_at hi).2.1
  unfold crashed
  rw [crashMed_succ d keep hi hk, List.getD_eq_getElem?_getD, List.getElem?_eq_getElem hk]
  rfl
theorem crashed_same (d : DevD) (keep : List Int) {i k : Nat} (hi : d.keys[i]? = some k) (hp : pick keep i (d.cac k) (d.med.getD k []) = d.med.getD k []) : d.crashed keep (i + 1) = d.crashed keep i := by
  have hk := keys_at hi
  rw [crashed_set d keep hi, hp]
  have e : (d.crashed keep i).med.set k (d.med.getD k []) = (d.crashed keep i).med := by
    refine List.ext_getElem (by simp) fun j h1 h2 => ?_
    rw [List.getElem_set]
    by_cases e : k = j
    · subst e
      rw [if_pos rfl, List.getD_eq_getElem?_getD, List.getElem?_eq_getElem hk.2.1]
      have h3 : k < (d.crashMed keep i).length := h2
      have h4 := crashMed_get d keep i hk.2.1 h3
      rw [if_neg (by omega)] at h4
      exact h4.symm
    · rw [if_neg e]
  rw [e]
end DevD

/-- The greatest and the least. -/
def i64s (l : List Int) : Prop := ∀ x ∈ l, -9223372036854775808 ≤ x ∧ x ≤ 9223372036854775807
theorem vers_steps {x : Int} {n : Nat} (hx : -9223372036854775808 ≤ x ∧ x ≤ 9223372036854775807) (hn : n ≤ 1000000) :
    -((n : Int)) ≤ x.tmod (n + 1) ∧ x.tmod (n + 1) ≤ n ∧ 0 ≤ (x.tmod (n + 1) + n + 1).tmod (n + 1) ∧ (x.tmod (n + 1) + n + 1).tmod (n + 1) ≤ n := by
  have h1 : x.tmod (n + 1) < n + 1 := Int.tmod_lt_of_pos _ (by omega)
  have h2 : -(n + 1 : Int) < x.tmod (n + 1) := by
    have := Int.lt_tmod_of_pos x (show (0 : Int) < n + 1 by omega)
    exact this
  have h3 : (x.tmod (n + 1) + n + 1).tmod (n + 1) < n + 1 := Int.tmod_lt_of_pos _ (by omega)
  have h4 : 0 ≤ (x.tmod (n + 1) + n + 1).tmod (n + 1) := Int.tmod_nonneg _ (by omega)
  omega
end Go.Proofs.Ytkaijdnaheikeaa
