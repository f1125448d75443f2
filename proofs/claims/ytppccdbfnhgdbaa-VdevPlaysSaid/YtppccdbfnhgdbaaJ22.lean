/-
  What is in a device's cache, in order; a crash, sector by sector. No program stands here.
  Flushed, written again, crashed: what was flushed is read. No program stands here.
  The shelf's contracts at this program, in plain words: maps.Keys, slices.Sorted, slices.Sort at whole numbers.
  Contracts of package dev: Cached, Crash.
  Contracts of package dev: Crash.
-/
import Derived.Test.YtppccdbfnhgdbaaJ02
import Derived.Test.YtppccdbfnhgdbaaJ19
import Derived.Test.YtppccdbfnhgdbaaJ21
import Derived.Shelf.SlIterI.Nil
import Derived.Shelf.SlIterI.Sorted
import Derived.Shelf.SortM.Plain
import Derived.Shelf.SortM.SortNone
import Derived.Shelf.SlGeneric
import Derived.Test.YtppccdbfnhgdbaaProg
import Derived.Test.YtppccdbfnhgdbaaJ04
namespace Go.Proofs.Ytppccdbfnhgdbaa
set_option linter.unusedVariables false
set_option linter.unusedSimpArgs false

/-- The numbers below n that have something. -/
def hasL (p : Nat → Bool) (n : Nat) : List Nat := (List.range n).filter p
theorem hasL_succ (p : Nat → Bool) (n : Nat) : hasL p (n + 1) = if p n then hasL p n ++ [n] else hasL p n := by
  unfold hasL
  rw [List.range_succ, List.filter_append]
  cases h : p n <;> simp [h]
theorem hasL_at (p : Nat → Bool) : ∀ (n i k : Nat), (hasL p n)[i]? = some k → p k = true ∧ k < n ∧ (hasL p k).length = i
  | 0, i, k, h => by simp [hasL] at h
  | n + 1, i, k, h => by
    rw [hasL_succ] at h
    split at h
    · rename_i hp
      by_cases hi : i < (hasL p n).length
      · rw [List.getElem?_append_left hi] at h
        have := hasL_at p n i k h
        exact ⟨this.1, by omega, this.2.2⟩
      · rw [List.getElem?_append_right (by omega)] at h
        have h1 : i - (hasL p n).length = 0 := by
          cases hh : i - (hasL p n).length with
          | zero => rfl
          | succ m => rw [hh] at h; simp at h
        rw [h1] at h
        simp at h
        subst h
        exact ⟨hp, by omega, by omega⟩
    · have := hasL_at p n i k h
      exact ⟨this.1, by omega, this.2.2⟩
theorem hasL_rank (p : Nat → Bool) : ∀ (n k : Nat), k < n → p k = true → (hasL p n)[(hasL p k).length]? = some k
  | 0, k, h, _ => by omega
  | n + 1, k, h, hp => by
    rw [hasL_succ]
    by_cases e : k = n
    · subst e; rw [if_pos hp]; simp
    · have h1 := hasL_rank p n k (by omega) hp
      split
      · rw [List.getElem?_append_left (List.getElem?_eq_some_iff.1 h1).1]; exact h1
      · exact h1
theorem hasL_pair (p : Nat → Bool) (n : Nat) : (hasL p n).Pairwise (· < ·) := (List.pairwise_lt_range).filter _
theorem hasL_mem (p : Nat → Bool) (n k : Nat) : k ∈ hasL p n ↔ k < n ∧ p k = true := by simp [hasL]
theorem hasL_len (p : Nat → Bool) (n : Nat) : (hasL p n).length ≤ n := by
  have := List.length_filter_le p (List.range n)
  simpa [hasL] using this

namespace DevD
def pre (d : DevD) (k : Nat) : Bool := !(d.cac k).isEmpty
def keys (d : DevD) : List Nat := hasL d.pre d.med.length
theorem rank_eq (d : DevD) (k : Nat) : d.rank k = (hasL d.pre k).length := rfl
theorem keys_at {d : DevD} {i k : Nat} (h : d.keys[i]? = some k) : d.cac k ≠ [] ∧ k < d.med.length ∧ d.rank k = i := by
  have := hasL_at _ _ _ _ h
  refine ⟨fun e => ?_, this.2.1, this.2.2⟩
  have h1 := this.1
  simp [pre, e] at h1
/-- After the first m of the cache. -/
def crashed (d : DevD) (keep : List Int) (m : Nat) : DevD := { d with med := d.crashMed keep m, fuse := -1 }
theorem crashed_len (d : DevD) (keep : List Int) (m : Nat) : (d.crashed keep m).med.length = d.med.length := by simp [crashed, crashMed]
theorem crashMed_get (d : DevD) (keep : List Int) (m : Nat) {k : Nat} (hk : k < d.med.length) (h1 : k < (d.crashMed keep m).length) :
    (d.crashMed keep m)[k] = if (d.cac k).isEmpty = false ∧ d.rank k < m then pick keep (d.rank k) (d.cac k) d.med[k] else d.med[k] := by simp [crashMed]
theorem crashMed_zero (d : DevD) (keep : List Int) : d.crashMed keep 0 = d.med := by
  refine List.ext_getElem (by simp [crashMed]) fun k h1 h2 => ?_
  rw [crashMed_get d keep 0 h2, if_neg (by omega)]
/-- One more. -/
theorem crashMed_succ (d : DevD) (keep : List Int) {i k : Nat} (hi : d.keys[i]? = some k) (h : k < d.med.length) : d.crashMed keep (i + 1) = (d.crashMed keep i).set k (pick keep i (d.cac k) d.med[k]) := by
  have hk := keys_at hi
  refine List.ext_getElem (by simp [crashMed]) fun j h1 h2 => ?_
  have hj : j < d.med.length := by simpa [crashMed] using h1
  rw [crashMed_get d keep _ hj, List.getElem_set, crashMed_get d keep _ hj]
  by_cases e : k = j
  · subst e
    rw [if_pos rfl, if_pos ⟨by simpa using hk.1, by omega⟩, hk.2.2]
  · rw [if_neg e]
    by_cases hp : (d.cac j).isEmpty = false
    · have hr : d.rank j ≠ i := by
        intro hr
        have h3 := hasL_rank d.pre d.med.length j hj (by simp [pre, hp])
        rw [show (hasL d.pre j).length = i from hr] at h3
        exact e (Option.some.inj (hi.symm.trans h3))
      by_cases h4 : d.rank j < i
      · rw [if_pos ⟨hp, by omega⟩, if_pos ⟨hp, h4⟩]
      · rw [if_neg (by omega), if_neg (by omega)]
    · rw [if_neg (fun h => hp h.1), if_neg (fun h => hp h.1)]
/-- No more. -/
theorem crashMed_end (d : DevD) (keep : List Int) {i : Nat} (hi : keep.length ≤ i ∨ d.keys.length ≤ i) : d.crashMed keep i = d.crashMed keep d.med.length := by
  refine List.ext_getElem (by simp [crashMed]) fun j h1 h2 => ?_
  have hj : j < d.med.length := by simpa [crashMed] using h1
  rw [crashMed_get d keep _ hj, crashMed_get d keep _ hj]
  by_cases hp : (d.cac j).isEmpty = false
  · have h3 := hasL_rank d.pre d.med.length j hj (by simp [pre, hp])
    have h4 : d.rank j < d.keys.length := (List.getElem?_eq_some_iff.1 h3).1
    have h5 : d.keys.length ≤ d.med.length := hasL_len _ _
    by_cases h6 : d.rank j < i
    · rw [if_pos ⟨hp, h6⟩, if_pos ⟨hp, by omega⟩]
    · rw [if_neg (by omega), if_pos ⟨hp, by omega⟩]
      rcases hi with hi | hi
      · have : keep[d.rank j]? = none := List.getElem?_eq_none (by omega)
        unfold pick
        rw [this]
      · omega
  · rw [if_neg (fun h => hp h.1), if_neg (fun h => hp h.1)]
theorem crash_eq (d : DevD) (keep : List Int) (hl : d.lost = false) {i : Nat} (hi : keep.length ≤ i ∨ d.keys.length ≤ i) : d.crash keep = { d.crashed keep i with cac := fun _ => [] } := by
  unfold crash crashed
  rw [if_neg (by simp [hl]), crashMed_end d keep hi]
theorem crashed_set (d : DevD) (keep : List Int) {i k : Nat} (hi : d.keys[i]? = some k) : d.crashed keep (i + 1) = { d.crashed keep i with med := (d.crashed keep i).med.set k (pick keep i (d.cac k) (d.med.getD k [])) } := by
  have hk := (keys_at hi).2.1
  unfold crashed
  rw [crashMed_succ d keep hi hk, List.getD_eq_getElem?_getD, List.getElem?_eq_getElem hk]
  rfl
theorem crashed_same (d : DevD) (keep : List Int) {i k : Nat} (hi : d.keys[i]? = some k) (hp : pick keep i (d.cac k) (d.med.getD k []) = d.med.getD k []) : d.crashed keep (i + 1) = d.crashed keep i := by
  have hk := keys_at hi
  rw [crashed_set d keep hi, hp]
  have e : (d.crashed keep i).med.set k (d.med.getD k []) = (d.crashed keep i).med := by
    refine List.ext_getElem (by simp) fun j h1 h2 => ?_
    rw [List.getElem_set]
    by_cases e : k = j
    · subst e
      rw [if_pos rfl, List.getD_eq_getElem?_getD, List.getElem?_eq_getElem hk.2.1]
      have h3 : k < (d.crashMed keep i).length := h2
      have h4 := crashMed_get d keep i hk.2.1 h3
      rw [if_neg (by omega)] at h4
      exact h4.symm
    · rw [if_neg e]
  rw [e]
end DevD

/-- The greatest and the least. -/
def i64s (l : List Int) : Prop := ∀ x ∈ l, -9223372036854775808 ≤ x ∧ x ≤ 9223372036854775807
theorem vers_steps {x : Int} {n : Nat} (hx : -9223372036854775808 ≤ x ∧ x ≤ 9223372036854775807) (hn : n ≤ 1000000) :
    -((n : Int)) ≤ x.tmod (n + 1) ∧ x.tmod (n + 1) ≤ n ∧ 0 ≤ (x.tmod (n + 1) + n + 1).tmod (n + 1) ∧ (x.tmod (n + 1) + n + 1).tmod (n + 1) ≤ n := by
  have h1 : x.tmod (n + 1) < n + 1 := Int.tmod_lt_of_pos _ (by omega)
  have h2 : -(n + 1 : Int) < x.tmod (n + 1) := by
    have := Int.lt_tmod_of_pos x (show (0 : Int) < n + 1 by omega)
    exact this
  have h3 : (x.tmod (n + 1) + n + 1).tmod (n + 1) < n + 1 := Int.tmod_lt_of_pos _ (by omega)
  have h4 : 0 ≤ (x.tmod (n + 1) + n + 1).tmod (n + 1) := Int.tmod_nonneg _ (by omega)
  omega
end Go.Proofs.Ytppccdbfnhgdbaa

namespace Go.Proofs.Ytppccdbfnhgdbaa
set_option linter.unusedVariables false
set_option linter.unusedSimpArgs false

def turnTo (f : DevD → DevD) (ds : List DevD) (k : Nat) : List DevD := ds.mapIdx fun i d => if i < k then f d else d
section
variable {f : DevD → DevD} {ds : List DevD}
theorem turnTo_at (k i : Nat) : (turnTo f ds k)[i]? = (ds[i]?).map fun d => if i < k then f d else d := by
  unfold turnTo
  rw [List.getElem?_mapIdx]
theorem turnTo_zero : turnTo f ds 0 = ds := by
  apply List.ext_getElem?
  intro i
  rw [turnTo_at]
  cases ds[i]? <;> simp
theorem turnTo_len (k : Nat) : (turnTo f ds k).length = ds.length := by simp [turnTo]
theorem turnTo_step {k : Nat} {d : DevD} (hd : ds[k]? = some d) : turnTo f ds (k + 1) = (turnTo f ds k).set k (f d) := by
  apply List.ext_getElem?
  intro i
  rw [turnTo_at, List.getElem?_set, turnTo_len, turnTo_at]
  by_cases e : k = i
  · subst e
    rw [if_pos rfl, if_pos (List.getElem?_eq_some_iff.1 hd).1, hd]
    simp
  · rw [if_neg e]
    cases ds[i]? with
    | none => rfl
    | some d =>
      simp only [Option.map_some]
      by_cases h : i < k
      · rw [if_pos h, if_pos (by omega)]
      · rw [if_neg h, if_neg (by omega)]
end
theorem crash_med (d : DevD) : (d.crash []).med = d.med := by
  unfold DevD.crash
  split
  · rfl
  · show d.crashMed [] _ = d.med
    unfold DevD.crashMed DevD.pick
    apply List.ext_getElem?
    intro i
    rw [List.getElem?_mapIdx]
    cases d.med[i]? <;> simp
theorem crash_lost (d : DevD) (k : List Int) : (d.crash k).lost = d.lost := by
  unfold DevD.crash
  split <;> rfl
theorem crash_rd {d e : DevD} {a : Int} (hl : d.lost = false) (hm : e.med = d.fl.med) (hlo : e.lost = false) (hf : d.fuse = -1) : (e.crash []).rdS a = d.rdS a := by
  have h0 : d.flE = 0 := by unfold DevD.flE; rw [hl, hf]; rfl
  have hmm : d.fl.med = d.med.mapIdx fun k s => lastOr (d.cac k) s := by
    unfold DevD.fl
    rw [if_pos h0]
    rfl
  have hlen : (e.crash []).med.length = d.med.length := by rw [crash_med, hm, hmm]; simp
  have hma : (e.crash []).mayE a = d.mayE a := by
    unfold DevD.mayE
    rw [crash_lost, hlo, hl, hlen]
  unfold DevD.rdS
  rw [hma]
  split
  · rename_i h1
    have h2 := DevD.mayE_ok h1
    have hc : (e.crash []).cac = fun _ => [] := by
      unfold DevD.crash
      rw [hlo]
      rfl
    unfold DevD.now DevD.medAt
    rw [hc, crash_med, hm, hmm]
    simp only [lastOr_nil, List.getD_eq_getElem?_getD, List.getElem?_mapIdx]
    rw [List.getElem?_eq_getElem (show a.toNat < d.med.length by omega)]
    rfl
  · rfl
theorem wr_med' (d : DevD) (a : Int) (s : List UInt8) : (d.wr a s).med = d.med := by
  unfold DevD.wr
  split <;> rfl
theorem putD_med {aw : List Bool} {ds : List DevD} {c : Col} {t : List UInt8} (i : Nat) : ((putD aw ds c t)[i]?).map DevD.med = (ds[i]?).map DevD.med := by
  unfold putD
  split
  · rfl
  · rename_i d hd
    split
    · by_cases e : c.1.toNat = i
      · subst e
        rw [List.getElem?_set, if_pos rfl, if_pos (List.getElem?_eq_some_iff.1 hd).1, hd]
        simp [wr_med']
      · rw [List.getElem?_set, if_neg e]
    · rfl
theorem wrTo_med {aw : List Bool} {L : List Col} {T : List (List UInt8)} {ds : List DevD} (i : Nat) : ∀ k, ((wrTo aw L T ds k)[i]?).map DevD.med = (ds[i]?).map DevD.med
  | 0 => rfl
  | k + 1 => by
    rw [wrTo]
    split
    · rw [putD_med, wrTo_med i k]
    · exact wrTo_med i k
theorem fl_ok {d : DevD} (h : d.Ok) (hl : d.lost = false) (hf : d.fuse = -1) : d.fl.Ok ∧ d.fl.fuse = -1 ∧ ∀ k, d.fl.cac k = [] := by
  have h0 : d.flE = 0 := by unfold DevD.flE; rw [hl, hf]; rfl
  have e : d.fl = d.burn.settled := by unfold DevD.fl; rw [if_pos h0]
  have hfu : d.burn.settled.fuse = -1 := by show max (d.fuse - 1) (-1) = -1; omega
  refine ⟨⟨by rw [fl_len]; exact h.pos, by rw [fl_len]; exact h.few, fun s hs => ?_, fun k s hs => ?_, fun k hk => ?_, ?_, ?_⟩, by rw [e]; exact hfu, fun k => by rw [e]; rfl⟩
  · rw [e] at hs
    obtain ⟨i, hi⟩ := List.mem_iff_getElem?.1 hs
    have hi' : (d.med.mapIdx fun k s => lastOr (d.cac k) s)[i]? = some s := hi
    rw [List.getElem?_mapIdx] at hi'
    cases hq : d.med[i]? with
    | none => rw [hq] at hi'; cases hi'
    | some u =>
      rw [hq] at hi'
      simp only [Option.map_some, Option.some.injEq] at hi'
      subst hi'
      unfold lastOr
      cases hz : (d.cac i).getLast? with
      | none => exact h.med u (List.mem_of_getElem? hq)
      | some v => exact h.cac i v (List.mem_of_getLast? hz)
  · rw [e] at hs; exact absurd hs (List.not_mem_nil)
  · rw [e]; rfl
  · rw [e, hfu]; omega
  · rw [e, hfu]; omega
theorem flD_ok {N secs : Nat} {aw : List Bool} {ds : List DevD} (ok : DsOk N secs ds) (k : Nat) : DsOk N secs (flTo aw ds k) := fun d hd => by
  obtain ⟨i, hi⟩ := List.mem_iff_getElem?.1 hd
  rw [flTo_at] at hi
  cases hq : ds[i]? with
  | none => rw [hq] at hi; cases hi
  | some e =>
    rw [hq] at hi
    simp only [Option.map_some, Option.some.injEq] at hi
    obtain ⟨o1, o2, o3, o4⟩ := ok e (List.mem_of_getElem? hq)
    split at hi
    · rename_i hh
      simp only [Bool.and_eq_true, decide_eq_true_eq] at hh
      have hl : e.lost = false := by
        have h2 := hh.2
        unfold hereD at h2
        rw [hq] at h2
        simp at h2
        exact h2.2
      obtain ⟨f1, f2, f3⟩ := fl_ok o1 hl o3
      subst hi
      exact ⟨f1, by rw [fl_len]; exact o2, f2, fun j => by rw [f3]; exact Nat.zero_le _⟩
    · subst hi
      exact ⟨o1, o2, o3, o4⟩
/-- Written and flushed by all, then written again, and crashed. -/
theorem flush_read {gs : List (Int × Int)} {secs n : Nat} {pg pa : Int} {s t : List UInt8} (hr : gRight gs secs = true) (hn : gSum gs = n) (hE : encE gs secs pg pa s = 0) (h1 : 1 ≤ secs) (h2 : secs ≤ 4096) {L : List Col} (hL : L = ofList gs secs pg pa (secN s))
    {ds1 ds2 ds3 ds4 : List DevD} (hd1 : ds1 = wrTo (List.replicate n false) L (encL gs secs pg pa s) (List.replicate n (DevD.blank secs 0)) L.length) (hd2 : ds2 = flD (List.replicate n false) ds1) (hd3 : ds3 = wrTo (List.replicate n false) L (encL gs secs pg pa t) ds2 L.length)
    (hd4 : ds4 = turnTo (fun d => d.crash []) ds3 n) : L.map (rdC (List.replicate n false) ds4) = encL gs secs pg pa s := by
  have ok0 : DsOk 0 secs (List.replicate n (DevD.blank secs 0)) := blanks_ok h1 h2
  have c1 := cols_of hr hn hE
  rw [← hL] at c1
  have hlen0 : (List.replicate n (DevD.blank secs 0)).length = n := by simp
  have hlen1 : ds1.length = n := by rw [hd1, wrTo_len, hlen0]
  have hlen2 : ds2.length = n := by rw [hd2]; unfold flD; rw [flTo_len, hlen1]
  have hlen3 : ds3.length = n := by rw [hd3, wrTo_len, hlen2]
  have ok1 : DsOk (0 + L.length) secs ds1 := by rw [hd1]; exact wrTo_ok ok0 _
  have hh1 : ∀ i, i < n → hereD (List.replicate n false) ds1 i = true := fun i hi => by rw [hd1, wrTo_hereD]; exact here_blank hi
  have hTl : (encL gs secs pg pa s).length = L.length := by rw [encL_len, hL]
  apply List.ext_getElem?
  intro j
  rw [List.getElem?_map]
  by_cases hj : j < L.length
  · obtain ⟨c, hc⟩ : ∃ c, L[j]? = some c := ⟨_, List.getElem?_eq_getElem hj⟩
    obtain ⟨e1, e2, e3, e4⟩ := c1.inn j c hc
    have hi : c.1.toNat < n := by omega
    obtain ⟨d1, hq1⟩ : ∃ d1, ds1[c.1.toNat]? = some d1 := ⟨_, List.getElem?_eq_getElem (by omega)⟩
    obtain ⟨d3, hq3⟩ : ∃ d3, ds3[c.1.toNat]? = some d3 := ⟨_, List.getElem?_eq_getElem (by omega)⟩
    obtain ⟨o1, o2, o3, o4⟩ := ok1 d1 (List.mem_of_getElem? hq1)
    have hl1 : d1.lost = false := by
      have h := hh1 _ hi
      unfold hereD at h
      rw [hq1] at h
      simp at h
      exact h.2
    have hq2 : ds2[c.1.toNat]? = some d1.fl := by
      rw [hd2]
      unfold flD
      rw [flTo_at, hq1, hlen1]
      simp [hi, hh1 _ hi]
    have hm3 : d3.med = d1.fl.med := by
      have := wrTo_med (aw := List.replicate n false) (L := L) (T := encL gs secs pg pa t) (ds := ds2) c.1.toNat L.length
      rw [← hd3, hq3, hq2] at this
      simpa using this
    have hl3 : d3.lost = false := by
      have := wrTo_lost (aw := List.replicate n false) (L := L) (T := encL gs secs pg pa t) (ds := ds2) c.1.toNat L.length
      rw [← hd3, hq3, hq2] at this
      simp only [Option.map_some, Option.some.injEq] at this
      rw [this, fl_lost]
      exact hl1
    have hq4 : ds4[c.1.toNat]? = some (d3.crash []) := by
      rw [hd4, turnTo_at, hq3]
      simp [hi]
    have hh4 : hereD (List.replicate n false) ds4 c.1.toNat = true := by
      unfold hereD
      rw [hq4]
      simp [crash_lost, hl3, List.getD_eq_getElem?_getD, hi]
    have hlk := wrTo_look (aw := List.replicate n false) ok0 (by rw [hlen0]; exact c1) L.length (Nat.le_refl _) j c hc
    rw [← hd1, here_blank hi, decide_eq_true hj] at hlk
    simp only [Bool.and_self, if_true] at hlk
    rw [hc, Option.map_some, rdC_look, hh4, if_pos rfl]
    unfold look at hlk ⊢
    rw [hq1] at hlk
    rw [hq4]
    simp only at hlk ⊢
    rw [crash_rd hl1 hm3 hl3 o3, hlk, List.getD_eq_getElem?_getD, List.getElem?_eq_getElem (by omega)]
    rfl
  · rw [List.getElem?_eq_none (by omega), List.getElem?_eq_none (by omega)]
    rfl
/-- What is encoded has no bad column. -/
theorem bad_enc {gs : List (Int × Int)} {secs pg pa : Int} {s : List UInt8} : badL gs secs pg pa s (encL gs secs pg pa s) = [] := by
  unfold badL
  split
  · apply List.filter_eq_nil_iff.2
    intro i _
    simp
  · rfl
theorem fits_enc {gs : List (Int × Int)} {secs pg pa : Int} {s : List UInt8} (hE : encE gs secs pg pa s = 0) : fitsB gs secs pg pa (secN s) (encL gs secs pg pa s) = true := by
  obtain ⟨z1, z2, z3⟩ := encE_zero hE
  unfold fitsB
  have hl : (encL gs secs pg pa s).length = (colsOf gs secs pg pa (secN s)).length := by rw [encL_len]; unfold ofList; rw [if_pos z2]
  rw [z2, hl]
  simp only [Bool.true_and, beq_self_eq_true, Bool.not_eq_true']
  rw [List.any_eq_false]
  intro t ht
  have := encL_64 z2 t ht
  unfold fitP
  simp [this]
end Go.Proofs.Ytppccdbfnhgdbaa

namespace Go.Proofs
open Go.Shelf
def Try.keysA_ren : Go.Shelf.Ren := ⟨fun | 7 => 62 | 10 => 73 | n => n, fun | 23 => 83 | 26 => 3 | 3 => 37 | 28 => 103 | 0 => 0 | 27 => 102 | 33 => 111 | 4 => 4 | n => n, fun | n => n⟩
theorem Try.keysA : Go.Proofs.SlLaysZI.n7 Try.prog Try.keysA_ren := {
  mixed := by kernel_rfl
  f7 := ⟨Try.f62.name, by decide, Try.func62.trans (congrArg some (by kernel_rfl))⟩
  f10 := ⟨Try.f73.name, by decide, Try.func73.trans (congrArg some (by kernel_rfl))⟩
  t0 := Try.underlying0
  a0 := Try.isAgg0
  z0 := Try.sizeOf0
  v0 := Try.zeroValue0
  t4 := Try.underlying4
  a4 := Try.isAgg4
  z4 := Try.sizeOf4
  v4 := Try.zeroValue4
  t23 := Try.underlying83
  a23 := Try.isAgg83
  z23 := Try.sizeOf83
  v23 := Try.zeroValue83
  t26 := Try.underlying3
  a26 := Try.isAgg3
  z26 := Try.sizeOf3
  v26 := Try.zeroValue3
  t27 := Try.underlying102
  a27 := Try.isAgg102
  z27 := Try.sizeOf102
  v27 := Try.zeroValue102
  t28 := Try.underlying103
  a28 := Try.isAgg103
  z28 := Try.sizeOf103
  v28 := Try.zeroValue103
  t33 := Try.underlying111
  a33 := Try.isAgg111
  z33 := Try.sizeOf111
  v33 := Try.zeroValue111 }
def Try.sortedA_ren : Go.Shelf.Ren := ⟨fun | 6 => 61 | 8 => 71 | 9 => 72 | 11 => 75 | 13 => 77 | 12 => 76 | 23 => 93 | 24 => 94 | 14 => 84 | 15 => 85 | 16 => 86 | 17 => 87 | 18 => 88 | 19 => 89 | 20 => 90 | 21 => 91 | 22 => 92 | 25 => 100 | 26 => 101 | 27 => 102 | 28 => 103 | 29 => 104 | 30 => 105 | 31 => 108 | n => n, fun | 26 => 3 | 28 => 103 | 24 => 59 | 0 => 0 | 3 => 3 | 37 => 116 | 48 => 139 | 50 => 141 | 4 => 4 | 40 => 131 | 39 => 130 | 45 => 136 | 5 => 5 | 9 => 9 | 51 => 147 | 55 => 151 | 57 => 156 | 58 => 157 | 33 => 111 | n => n, fun | n => n⟩
theorem Try.sortedA : Go.Proofs.SlLaysZI.n6 Try.prog Try.sortedA_ren := {
  mixed := by kernel_rfl
  f6 := ⟨Try.f61.name, by decide, Try.func61.trans (congrArg some (by kernel_rfl))⟩
  f8 := ⟨Try.f71.name, by decide, Try.func71.trans (congrArg some (by kernel_rfl))⟩
  f11 := ⟨Try.f75.name, by decide, Try.func75.trans (congrArg some (by kernel_rfl))⟩
  t0 := Try.underlying0
  a0 := Try.isAgg0
  z0 := Try.sizeOf0
  v0 := Try.zeroValue0
  t24 := Try.underlying59
  a24 := Try.isAgg59
  z24 := Try.sizeOf59
  v24 := Try.zeroValue59
  t26 := Try.underlying3
  a26 := Try.isAgg3
  z26 := Try.sizeOf3
  v26 := Try.zeroValue3
  t28 := Try.underlying103
  a28 := Try.isAgg103
  z28 := Try.sizeOf103
  v28 := Try.zeroValue103
  i26 := by kernel_rfl }
def Try.sortA_ren : Go.Shelf.Ren := ⟨fun | 5 => 72 | 8 => 77 | 7 => 76 | 19 => 93 | 20 => 94 | 10 => 84 | 11 => 85 | 12 => 86 | 13 => 87 | 14 => 88 | 15 => 89 | 16 => 90 | 17 => 91 | 18 => 92 | 30 => 100 | 31 => 101 | 32 => 102 | 33 => 103 | 34 => 104 | 35 => 105 | 40 => 108 | n => n, fun | 23 => 59 | 25 => 3 | 3 => 3 | 32 => 116 | 22 => 59 | 0 => 0 | 44 => 139 | 46 => 141 | 4 => 4 | 36 => 131 | 35 => 130 | 41 => 136 | 5 => 5 | 9 => 9 | 53 => 147 | 57 => 151 | 63 => 156 | 64 => 157 | n => n, fun | n => n⟩
theorem Try.sortA : Go.Proofs.SlLaysM.n5 Try.prog Try.sortA_ren := {
  mixed := by kernel_rfl
  f5 := ⟨Try.f72.name, by decide, Try.func72.trans (congrArg some (by kernel_rfl))⟩
  f7 := ⟨Try.f76.name, by decide, Try.func76.trans (congrArg some (by kernel_rfl))⟩
  f8 := Try.func77.trans (congrArg some (by kernel_rfl))
  f10 := ⟨Try.f84.name, by decide, Try.func84.trans (congrArg some (by kernel_rfl))⟩
  f11 := ⟨Try.f85.name, by decide, Try.func85.trans (congrArg some (by kernel_rfl))⟩
  f12 := ⟨Try.f86.name, by decide, Try.func86.trans (congrArg some (by kernel_rfl))⟩
  f13 := ⟨Try.f87.name, by decide, Try.func87.trans (congrArg some (by kernel_rfl))⟩
  f14 := ⟨Try.f88.name, by decide, Try.func88.trans (congrArg some (by kernel_rfl))⟩
  f15 := ⟨Try.f89.name, by decide, Try.func89.trans (congrArg some (by kernel_rfl))⟩
  f16 := ⟨Try.f90.name, by decide, Try.func90.trans (congrArg some (by kernel_rfl))⟩
  f17 := ⟨Try.f91.name, by decide, Try.func91.trans (congrArg some (by kernel_rfl))⟩
  f18 := ⟨Try.f92.name, by decide, Try.func92.trans (congrArg some (by kernel_rfl))⟩
  f19 := Try.func93.trans (congrArg some (by kernel_rfl))
  f20 := Try.func94.trans (congrArg some (by kernel_rfl))
  f30 := ⟨Try.f100.name, by decide, Try.func100.trans (congrArg some (by kernel_rfl))⟩
  f31 := Try.func101.trans (congrArg some (by kernel_rfl))
  f32 := Try.func102.trans (congrArg some (by kernel_rfl))
  f33 := ⟨Try.f103.name, by decide, Try.func103.trans (congrArg some (by kernel_rfl))⟩
  f34 := ⟨Try.f104.name, by decide, Try.func104.trans (congrArg some (by kernel_rfl))⟩
  f35 := ⟨Try.f105.name, by decide, Try.func105.trans (congrArg some (by kernel_rfl))⟩
  f40 := ⟨Try.f108.name, by decide, Try.func108.trans (congrArg some (by kernel_rfl))⟩
  t0 := Try.underlying0
  a0 := Try.isAgg0
  z0 := Try.sizeOf0
  v0 := Try.zeroValue0
  t3 := Try.underlying3
  a3 := Try.isAgg3
  z3 := Try.sizeOf3
  v3 := Try.zeroValue3
  t4 := Try.underlying4
  a4 := Try.isAgg4
  z4 := Try.sizeOf4
  v4 := Try.zeroValue4
  t5 := Try.underlying5
  a5 := Try.isAgg5
  z5 := Try.sizeOf5
  v5 := Try.zeroValue5
  t9 := Try.underlying9
  a9 := Try.isAgg9
  z9 := Try.sizeOf9
  v9 := Try.zeroValue9
  t22 := Try.underlying59
  a22 := Try.isAgg59
  z22 := Try.sizeOf59
  v22 := Try.zeroValue59
  t23 := Try.underlying59
  a23 := Try.isAgg59
  z23 := Try.sizeOf59
  v23 := Try.zeroValue59
  t25 := Try.underlying3
  a25 := Try.isAgg3
  z25 := Try.sizeOf3
  v25 := Try.zeroValue3
  t32 := Try.underlying116
  a32 := Try.isAgg116
  z32 := Try.sizeOf116
  v32 := Try.zeroValue116
  t35 := Try.underlying130
  a35 := Try.isAgg130
  z35 := Try.sizeOf130
  v35 := Try.zeroValue130
  t36 := Try.underlying131
  a36 := Try.isAgg131
  z36 := Try.sizeOf131
  v36 := Try.zeroValue131
  t41 := Try.underlying136
  a41 := Try.isAgg136
  z41 := Try.sizeOf136
  v41 := Try.zeroValue136
  t44 := Try.underlying139
  a44 := Try.isAgg139
  z44 := Try.sizeOf139
  v44 := Try.zeroValue139
  t46 := Try.underlying141
  a46 := Try.isAgg141
  z46 := Try.sizeOf141
  v46 := Try.zeroValue141
  t53 := Try.underlying147
  a53 := Try.isAgg147
  z53 := Try.sizeOf147
  v53 := Try.zeroValue147
  t57 := Try.underlying151
  a57 := Try.isAgg151
  z57 := Try.sizeOf151
  v57 := Try.zeroValue151
  t63 := Try.underlying156
  a63 := Try.isAgg156
  z63 := Try.sizeOf156
  v63 := Try.zeroValue156
  t64 := Try.underlying157
  a64 := Try.isAgg157
  z64 := Try.sizeOf157
  v64 := Try.zeroValue157 }
end Go.Proofs

namespace Go.Proofs.Ytppccdbfnhgdbaa
set_option linter.unusedVariables false
set_option linter.unusedSimpArgs false
open Go.RowKit Go.Maps Go.Sort Go.Shelf

theorem sorts_in (m : Nat) : AnyZI.SortsIn Try.prog Try.sortedA_ren Fence.wide m :=
  ⟨fun blk off cap ss W hH hblk hsz => callsIn_wide.2 (AnyM.slices_Sort_int Try.sortA blk off cap ss W hH hblk hsz),
   fun p cap W => callsIn_wide.2 (AnyM.slices_Sort_int_none Try.sortA p cap W)⟩

def intsOf (l : List Nat) : List Int := l.map fun (k : Nat) => (k : Int)
theorem keys_eq {w : World} {S : Nat → Prop} {bd mb mcap cb : Nat} {d : DevD} {g : Int → Option Value} (h : DevIn w S bd d mb mcap cb g) {l : List Int} (hl : RisingKeys g l) : l = intsOf d.keys := by
  have hp2 : (intsOf d.keys).Pairwise (· < ·) := by
    refine List.pairwise_map.2 ((hasL_pair d.pre d.med.length).imp fun {a b} h => ?_)
    omega
  have nd1 : l.Nodup := hl.1.imp (fun {a b} h e => by omega)
  have nd2 : (intsOf d.keys).Nodup := hp2.imp (fun {a b} h e => by omega)
  refine List.Perm.eq_of_pairwise (le := (· < ·)) (fun a b _ _ h1 h2 => by omega) hl.1 hp2 ((List.perm_ext_iff_of_nodup nd1 nd2).2 fun x => ?_)
  rw [hl.2]
  unfold intsOf
  rw [List.mem_map]
  constructor
  · intro hx
    have hk := h.keys x hx
    obtain ⟨n, rfl⟩ := Int.eq_ofNat_of_zero_le hk.1
    cases hg : g n with
    | none => rw [hg] at hx; cases hx
    | some v => exact ⟨n, (hasL_mem d.pre d.med.length n).2 ⟨by omega, by simpa [DevD.pre] using (h.rows n v hg).1⟩, rfl⟩
  · rintro ⟨n, hn, rfl⟩
    have h2 := ((hasL_mem _ _ _).1 hn).2
    cases hg : g n with
    | none => simp [DevD.pre, h.none_ n hg] at h2
    | some v => rfl

set_option maxHeartbeats 1000000 in
theorem cached_any {w : World} {S : Nat → Prop} {bd : Nat} {d : DevD} (h : DevAt w S bd d) (few : d.med.length ≤ 4096) : Calls Try.prog 41 #[.pointer (some ⟨bd, 0, none⟩)] w fun e w' =>
    ∃ v, e = .returned v ∧ w'.ownsRow w.heap.size 3 1 v d.keys.length (d.keys.map fun (k : Nat) => .int .i64 k) ∧ Below w.heap.size w w' := by
  obtain ⟨mb, mcap, cb, g, h⟩ := h
  obtain ⟨c0, c1, c2, c3⟩ := h.cells
  obtain ⟨D0, hown, hf⟩ := h.map
  have hfin : ∀ ss : List Int, ss.Perm (intKeys D0) → (ss.mergeSort fun x y => decide (x ≤ y)) = intsOf d.keys := fun ss hp => keys_eq h (MapAt.sorted hown Try.underlying3 hf hp)
  have HFIN := Lib.hid hfin
  have hsz := hown.size_le
  have hmax : Maps.size D0 ≤ maxLen := by unfold maxLen; omega
  have hbytes : Maps.size D0 * 8 ≤ 140737488355328 := by omega
  have hbl := hown.lt
  clear hfin h few
  refine (callsIn_wide (n := 6)).1 ?_
  have hseq : SeqGives Fence.wide 2 Try.prog 73 #[.pointer (some ⟨w.heap.size, 0, none⟩)] encZ (fun ss => ss.Perm (intKeys D0)) (Maps.size D0) (w.alloc (.cells #[.map (some cb)] 83)) :=
    AnyZI.keys_gives (ρ := Try.keysA_ren) { Try.keysA with } Fence.wide _ trivial rfl (by omega) w.heap.size cb d.med.length D0 _ (by simp) (by simp) (by
      obtain ⟨es, clock, hb, Ft, hs, hD⟩ := hown
      exact ⟨es, clock, (Below.heap_alloc _ _ cb hbl).trans hb, Ft, hs, hD⟩)
  have cK : ∀ mb W, CallsIn Fence.wide 5 Try.prog 62 #[.map mb] W fun e w' => e = .returned (.func (.func 73) #[] #[.pointer (some ⟨W.heap.size, 0, none⟩)]) ∧ w' = W.alloc (.cells #[.map mb] 83) := fun mb W => AnyZI.keys_in Try.keysA Fence.wide 5 trivial rfl mb W
  have cS := AnyZI.sorted_in Try.sortedA Fence.wide 5 trivial trivial trivial trivial rfl (by omega) (sorts_in _) (enters_of Try.func72 (by kernel_rfl) rfl) 73 #[.pointer (some ⟨w.heap.size, 0, none⟩)] trivial (enters_of Try.func73 (by kernel_rfl) rfl) _ _ hmax hbytes _ hseq
  change CallsIn _ _ Try.prog 61 _ _ _ at cS
  have hfK : Fence.wide.fn 62 := trivial
  have hfS : Fence.wide.fn 61 := trivial
  clear hown hf
  refine callsIn_of_wp Try.func41 rfl trivial ?_ rfl
  simp only [Try.ntmps41, List.size_toArray, List.length_cons, List.length_nil, Nat.reduceAdd, Nat.reduceSub, Array.replicate_succ, Array.replicate_zero, List.push_toArray, List.append_toArray, List.nil_append, List.cons_append]
  gi_wp2_with (first
    | (gi_at_call 62; refine (cK _ _).mono ?_; rintro e w' ⟨rfl, rfl⟩)
    | (gi_at_call 61; refine cS.mono ?_; rintro e w' ⟨v, ss, rfl, hS, hrow, hnil, hb⟩))
  go_ret
  have he := HFIN.out ss hS
  have hlen : ss.length = d.keys.length := by
    have := congrArg List.length he
    rw [List.length_mergeSort] at this
    simpa [intsOf] using this
  rw [he, hlen] at hrow
  have hmp : (intsOf d.keys).map encZ = d.keys.map fun (k : Nat) => Value.int .i64 k := by simp [intsOf, List.map_map]
  rw [hmp] at hrow
  exact ⟨v, rfl, ownsRow_base_a hrow (by simp), ((Below.refl _ w).alloc (Nat.le_refl _) _).trans (hb.mono (by simp))⟩
theorem cached_nil (w : World) : Calls Try.prog 41 #[.pointer none] w fun e w' => e = .returned (.slice none 0 0) ∧ w = w' := by
  go_enter Try.func41, Try.ntmps41
  go_wp2_with fail
  go_ret
  exact ⟨rfl, rfl⟩
end Go.Proofs.Ytppccdbfnhgdbaa

namespace Go.Proofs.Ytppccdbfnhgdbaa
set_option linter.unusedVariables false
set_option linter.unusedSimpArgs false
open Go.RowKit

/-- An argument that is a list of numbers, outside the blocks of S. -/
def KeepAt (w : World) (S : Nat → Prop) (v : Value) (l : List Int) : Prop :=
  ∃ A c, v = .slice A l.length c ∧ i64s l ∧ l.length ≤ 1000000 ∧ (0 < l.length → ∃ b o, A = some ⟨b, o, none⟩ ∧ ¬ S b ∧ b < w.heap.size ∧ ∀ i x, l[i]? = some x → w.cell? ⟨b, o + i, none⟩ = some (.int .i64 x))
theorem cell_same {w w' : World} {b o : Nat} (h : w'.heap[b]? = w.heap[b]?) : w'.cell? ⟨b, o, none⟩ = w.cell? ⟨b, o, none⟩ := by simp only [World.cell?, h]
theorem KeepAt.only {w w' : World} {S : Nat → Prop} {v : Value} {l : List Int} (h : KeepAt w S v l) (ho : Only S w w') : KeepAt w' S v l := by
  obtain ⟨A, c, h1, h2, h3, h4⟩ := h
  refine ⟨A, c, h1, h2, h3, fun hp => ?_⟩
  obtain ⟨b, o, h5, h6, h7, h8⟩ := h4 hp
  exact ⟨b, o, h5, h6, Nat.lt_of_lt_of_le h7 ho.size, fun i x hx => (cell_same (ho.block b h7 h6)).trans (h8 i x hx)⟩
theorem keepAt_nil (w : World) (S : Nat → Prop) : KeepAt w S (.slice none 0 0) [] := by
  refine ⟨none, 0, rfl, ?_, Nat.zero_le _, ?_⟩
  · intro x h; cases h
  · intro h; exact absurd h (Nat.lt_irrefl 0)

theorem wraps4 {m : Int} {n : Nat} (h1 : -(n : Int) ≤ m) (h2 : m ≤ n) (hn : n ≤ 1000000) : wrap64 ((n : Int) + 1) = n + 1 ∧ wrap64 (m + (n : Int)) = m + n ∧ wrap64 (m + (n : Int) + 1) = m + n + 1 ∧ ¬ ((n : Int) + 1 = 0) :=
  ⟨IntWalk.wrap64_in _ (by omega), IntWalk.wrap64_in _ (by omega), IntWalk.wrap64_in _ (by omega), by omega⟩
theorem wraps1 {j : Nat} (hn : j ≤ 1000000) : wrap64 ((j : Int) + 1 - 1) = j := by rw [IntWalk.wrap64_in _ (by omega)]; omega
theorem wraps2 {j : Nat} (hn : j ≤ 1000000) : IntKind.i64.wrap (j : Int) = j := (IntWalk.i64_left j).trans (IntWalk.wrap64_in _ (by omega))
theorem is_succ {r : Int} {n : Nat} (h0 : ¬ r = 0) (h1 : 0 ≤ r) (h2 : r ≤ n) : ∃ j : Nat, r = (j : Int) + 1 ∧ j < n := ⟨(r - 1).toNat, by omega, by omega⟩
theorem toNat_succ (j : Nat) : ((j : Int) + 1).toNat = j + 1 := by omega

set_option maxRecDepth 20000 in
theorem crash_ok {w : World} {S : Nat → Prop} {bd : Nat} {d : DevD} (h : DevAt w S bd d) (hlo : d.lost = false) (ok : d.Ok) (hv : ∀ k, (d.cac k).length ≤ 1000000) {kv : Value} {keep : List Int} (hk : KeepAt w S kv keep) :
    Calls Try.prog 20 #[.pointer (some ⟨bd, 0, none⟩), kv] w fun e w' => e = .returned (.tuple #[]) ∧ DevAt w' S bd (d.crash keep) ∧ Only S w w' := by
  have HL := Lib.hid (lost_any h)
  rw [hlo] at HL
  have HLT := Lib.hid h.lts
  have few := ok.few
  have HCE := Lib.hid (fun i => DevD.crash_eq d keep hlo (i := i))
  have HKEEP := Lib.hid hk
  obtain ⟨A, kc, rfl, hk64, hkl, hkc⟩ := hk
  obtain ⟨mb, mcap, cb, g, h⟩ := h
  obtain ⟨c0, c1, c2, c3⟩ := h.cells
  have hz : w.frozen? ⟨bd, 3, none⟩ = false := h.box.fr 3
  have h2 := h.box_set 3 (.int .i64 (-1)) (l := d.lost) (f := -1) rfl
  have HO : Hid (Only S w (w.setCell ⟨bd, 3, none⟩ (.int .i64 (-1)))) := Lib.hid ((Only.refl S w).set (.inl h.sd) _)
  have HC := Lib.hid (cached_any (w := w.setCell ⟨bd, 3, none⟩ (.int .i64 (-1))) ⟨mb, mcap, cb, g, h2⟩ few)
  have H2 := Lib.hid h2
  have H64 := Lib.hid hk64
  have HKC := Lib.hid hkc
  have HOK := Lib.hid ok
  have HV := Lib.hid hv
  have HFEW := Lib.hid few
  clear hlo h2 h ok hv hk64 hkc few c0 c1 c2
  go_enter Try.func20, Try.ntmps20
  go_wp2_with fail
  refine HL.out.mono ?_
  rintro e w1 ⟨rfl, rfl⟩
  go_wp2_with fail
  refine HC.out.mono ?_
  rintro e w2 ⟨v, rfl, hrow, hb2⟩
  have hkeys : (DevD.mk d.med d.cac d.lost (-1)).keys = d.keys := rfl
  rw [hkeys] at hrow
  have hnl : ∃ A2 cap2, v = .slice A2 d.keys.length cap2 := by
    rcases hrow.2 with ⟨rfl, h0⟩ | ⟨b, cap, cur, rfl, _⟩
    · exact ⟨none, 0, by rw [h0]⟩
    · exact ⟨_, _, rfl⟩
  obtain ⟨A2, cap2, rfl⟩ := hnl
  have hs2 : (w.setCell ⟨bd, 3, none⟩ (.int .i64 (-1))).heap.size = w.heap.size := by simp [World.setCell]
  have hin2 := H2.out.same hb2.size (fun i hi => hb2.block i (H2.out.lt i hi))
  have hon2 : Only S w w2 := HO.out.then_below hb2
  have HROW := Lib.hid hrow
  have HIN2 := Lib.hid hin2
  have HON2 := Lib.hid hon2
  have HB2 := Lib.hid hb2
  have HS2 := Lib.hid hs2
  clear hrow hin2 hon2 hb2 hkeys hs2
  go_wp2_with fail
  go_loopw [4, 5, 6, 7, 16] (fun _ _ _ _ t wr => ∃ i : Nat, i ≤ d.keys.length ∧ t = .int .i64 i ∧ DevIn wr S bd (d.crashed keep i) mb mcap cb g ∧ Only S w2 wr) (fun _ _ _ _ t _ => d.keys.length - (RowKit.intOf t).toNat)
  case atStart =>
    refine ⟨0, Nat.zero_le _, rfl, ?_, Only.refl _ _⟩
    have e : d.crashed keep 0 = ⟨d.med, d.cac, d.lost, -1⟩ := by unfold DevD.crashed; rw [DevD.crashMed_zero]
    rw [e]
    exact HIN2.out
  case round =>
    obtain ⟨i, hi, rfl, hin, hon⟩ := hrel
    have hcl := (hin.map).clear (t := 83) (ty := 0) Try.underlying83
    obtain ⟨w5, hrun, hm5, hg5, hs5⟩ := hcl
    have H5 := Lib.hid (hin.cleared hm5 hg5 hs5)
    have HO5 : Hid (Only S wr w5) := Lib.hid (Only.of_grown hg5 hin.sc)
    obtain ⟨c0, c1, c2, c3⟩ := hin.cells
    have HIN := Lib.hid hin
    have HON := Lib.hid hon
    have hkl2 := (hasL_len d.pre d.med.length)
    have few := HFEW.out
    have hkl3 : d.keys.length ≤ 4096 := Nat.le_trans hkl2 few
    clear hm5 hg5 hs5 hin hon hkl2
    by_cases hlt : i < d.keys.length
    · obtain ⟨k, hk⟩ : ∃ k, d.keys[i]? = some k := ⟨_, List.getElem?_eq_getElem hlt⟩
      obtain ⟨hcac, hkm, hrk⟩ := DevD.keys_at hk
      have hdc : decide (i < d.keys.length) = true := decide_eq_true hlt
      have hform : ∃ gv, A2 = some ⟨gv, 0, none⟩ := by
        rcases HROW.out.2 with ⟨_, h0⟩ | ⟨b, cap, cur, he, _⟩
        · omega
        · cases he; exact ⟨b, rfl⟩
      obtain ⟨gv, rfl⟩ := hform
      obtain ⟨ck, _⟩ := ownsRow_cell HROW.out (j := i) (u := .int .i64 k) (by rw [List.getElem?_map, hk]; rfl)
      have hlr := HROW.out.lt gv rfl
      have hs2 := HS2.out
      have hgS : ¬ S gv := fun hS => by have := HLT.out gv hS; omega
      have ck2 : wr.cell? ⟨gv, i, none⟩ = some (.int .i64 k) := (cell_same (HON.out.block gv hlr.2 hgS)).trans ck
      obtain ⟨v, hgv⟩ : ∃ v, g (k : Int) = some v := by
        cases hg : g (k : Int) with
        | none => exact absurd (HIN.out.none_ k hg) hcac
        | some v => exact ⟨v, rfl⟩
      obtain ⟨_, hvr⟩ := HIN.out.rows k v hgv
      have hlk := HIN.out.map.look (k := k) (t := 83) Try.underlying3 Try.underlying83 (zero_strs wr) (wfz_in (by omega) (by omega))
      rw [hgv] at hlk
      simp only [Option.getD_some] at hlk
      have hcd : (d.crashed keep i).cac k = d.cac k := rfl
      rw [hcd] at hvr
      have hpos : 0 < (d.cac k).length := List.length_pos_iff.2 hcac
      obtain ⟨cv, cap3, rfl, _, _⟩ := hvr.form (by omega)
      have HVR := Lib.hid hvr
      have HGV := Lib.hid hgv
      have HKK := Lib.hid hk
      have HKM := Lib.hid hkm
      have HCAC := Lib.hid hcac
      have HRK := Lib.hid hrk
      have HPOS := Lib.hid hpos
      have HI := Lib.hid hlt
      clear hlr hs2 hgS ck hgv hvr hk hkm hcac hrk hcd hpos hlt hi
      by_cases hik : keep.length ≤ i
      · have HIK := Lib.hid hik
        have hdk : decide (keep.length ≤ i) = true := decide_eq_true hik
        clear hik
        go_wp2_with fail
        go_end0
        refine ⟨rfl, ⟨mb, mcap, cb, fun _ => none, ?_⟩, (HON2.out.trans HON.out (fun _ h => .inl h)).trans HO5.out (fun _ h => .inl h)⟩
        rw [HCE.out i (.inl HIK.out)]
        exact H5.out
      · have hil : i < keep.length := by omega
        have hdk : decide (keep.length ≤ i) = false := decide_eq_false hik
        obtain ⟨kb, ko, rfl, hkS, hkb, hkcell⟩ := HKC.out (by omega)
        obtain ⟨x, hx⟩ : ∃ x, keep[i]? = some x := ⟨_, List.getElem?_eq_getElem hil⟩
        have hx64 := H64.out x (List.mem_of_getElem? hx)
        have kc0 := hkcell i x hx
        have kc1 : wr.cell? ⟨kb, ko + i, none⟩ = some (.int .i64 x) := by
          have h1 := cell_same (o := ko + i) (HON2.out.block kb hkb hkS)
          have h2 := cell_same (o := ko + i) (HON.out.block kb (Nat.lt_of_lt_of_le hkb HON2.out.size) hkS)
          exact (h2.trans h1).trans kc0
        have hnv := HV.out k
        obtain ⟨s1, s2, s3, s4⟩ := vers_steps hx64 hnv
        have hvers : DevD.vers x (d.cac k).length = ((x.tmod ((d.cac k).length + 1) + (d.cac k).length + 1).tmod ((d.cac k).length + 1)).toNat := rfl
        have HVERS := Lib.hid hvers
        have HX := Lib.hid hx
        have HIL := Lib.hid hil
        obtain ⟨n, hn⟩ : ∃ n, (d.cac k).length = n := ⟨_, rfl⟩
        have HN := Lib.hid hn
        rw [hn] at s1 s2 s3 s4 hnv
        obtain ⟨m, hm⟩ : ∃ m, x.tmod ((n : Int) + 1) = m := ⟨_, rfl⟩
        rw [hm] at s1 s2 s3 s4
        obtain ⟨r, hr⟩ : ∃ r, (m + (n : Int) + 1).tmod ((n : Int) + 1) = r := ⟨_, rfl⟩
        rw [hr] at s3 s4
        obtain ⟨q1, q3, q4, q0⟩ := wraps4 s1 s2 hnv
        have HM := Lib.hid hm
        have HR := Lib.hid hr
        have hpick : Hid (DevD.pick keep i (d.cac k) (d.med.getD k []) = if 0 < r.toNat then (d.cac k).getD (r.toNat - 1) [] else d.med.getD k []) := Lib.hid (by
          have e : DevD.vers x (d.cac k).length = r.toNat := by rw [HVERS.out, HN.out, HM.out, HR.out]
          unfold DevD.pick
          rw [HX.out]
          simp only [e])
        have HNV := Lib.hid hnv
        clear hvers hx hil hkcell hx64 kc0 hnv hkS hkb hik
        rw [hn] at hlk
        clear hn
        by_cases hr0 : r = 0
        · subst hr0
          have HSAME : Hid (d.crashed keep (i + 1) = d.crashed keep i) := Lib.hid (DevD.crashed_same d keep HKK.out (by rw [hpick.out]; rfl))
          go_wp2_with fail
          go_roundw
          case rel =>
            refine ⟨i + 1, HI.out, by go_num, ?_, HON.out⟩
            rw [HSAME.out]; exact HIN.out
          case measure => have := HI.out; simp [RowKit.intOf]; omega
        · obtain ⟨j, rfl, hjn⟩ := is_succ hr0 s3 s4
          have HSET := Lib.hid (DevD.crashed_set d keep HKK.out)
          obtain ⟨tx, htx⟩ : ∃ tx, (d.cac k)[j]? = some tx := ⟨_, List.getElem?_eq_getElem (by rw [HN.out]; exact hjn)⟩
          have hpk : DevD.pick keep i (d.cac k) (d.med.getD k []) = tx := by
            rw [hpick.out, toNat_succ, if_pos (Nat.succ_pos j), Nat.add_sub_cancel, List.getD_eq_getElem?_getD, htx]; rfl
          obtain ⟨cl, _⟩ := ownsRow_cell HVR.out (j := j) (u := str tx) (by rw [List.getElem?_map, htx]; rfl)
          have hkml : k < (d.crashed keep i).med.length := by rw [DevD.crashed_len]; exact HKM.out
          have hfz := (HIN.out.med_at hkml).2
          obtain ⟨cm, _⟩ := HIN.out.med_at hkml
          rw [DevD.crashed_len] at c0
          have H7 := Lib.hid (HIN.out.med_set hkml tx)
          have HPK := Lib.hid hpk
          have q6 : wrap64 ((j : Int) + 1 - 1) = j := wraps1 (Nat.le_trans (Nat.le_of_lt hjn) HNV.out)
          have q7 : IntKind.i64.wrap (j : Int) = j := wraps2 (Nat.le_trans (Nat.le_of_lt hjn) HNV.out)
          have hkm2 := HKM.out
          have HKML := Lib.hid hkml
          clear hpk hkml hr0 htx
          repeat' (first
            | go_values
            | go_skip
            | go_guarded
            | ((fail_if_success (with_reducible refine drawn_mark ?_))
               first
                 | go_step
                 | go_upon
                 | go_back
                 | (simp only [Int.not_lt, Int.not_le] at *; go_simp)
                 | (go_values <;> (try go_simp))
                 | (go_ite <;> go_prune <;> (try go_simp))
                 | (split <;> (first | (rename_i hx; exact (hx _ rfl).elim) | go_prune))))
          refine wp_region_still_tail 11 (by kernel_rfl) (by kernel_rfl) ?_
          simp only [List.take_succ_cons, List.take_zero, List.drop_succ_cons, List.drop_zero]
          repeat still_step
          try refine wpStill_nil ?_
          change wpList _ _ _ _ _ wr.drew
          have hfz2 : wr.drew.frozen? ⟨mb, k, none⟩ = false := hfz
          have cm2 : wr.drew.cell? ⟨mb, k, none⟩ = some (str ((d.crashed keep i).medAt k)) := cm
          clear hfz cm
          go_wp2_with fail
          go_roundw
          case rel =>
            refine ⟨i + 1, HI.out, by go_num, ?_, (HON.out.set (.inl HIN.out.sm) _).drew⟩
            rw [HSET.out, HPK.out]
            exact H7.out.same (Nat.le_refl _) (fun _ _ => rfl)
          case measure => have := HI.out; simp [RowKit.intOf]; omega
    · have hei : d.keys.length ≤ i := by omega
      have HEI := Lib.hid hei
      have hdc : decide (i < d.keys.length) = false := decide_eq_false (by omega)
      clear hlt hei hi few
      go_wp2_with fail
      go_end0
      refine ⟨rfl, ⟨mb, mcap, cb, fun _ => none, ?_⟩, (HON2.out.trans HON.out (fun _ h => .inl h)).trans HO5.out (fun _ h => .inl h)⟩
      rw [HCE.out i (.inr HEI.out)]
      exact H5.out

theorem crash_any {w : World} {S : Nat → Prop} {bd : Nat} {d : DevD} (h : DevAt w S bd d) (ok : d.Ok) (hv : ∀ k, (d.cac k).length ≤ 1000000) {kv : Value} {keep : List Int} (hk : KeepAt w S kv keep) :
    Calls Try.prog 20 #[.pointer (some ⟨bd, 0, none⟩), kv] w fun e w' => e = .returned (.tuple #[]) ∧ DevAt w' S bd (d.crash keep) ∧ Only S w w' := by
  cases hlo : d.lost with
  | false => exact crash_ok h hlo ok hv hk
  | true =>
    have hd : d.crash keep = d := by unfold DevD.crash; rw [hlo]; rfl
    rw [hd]
    have HL := Lib.hid (lost_any h)
    rw [hlo] at HL
    have HD := Lib.hid h
    clear h hk hd hlo ok hv
    go_enter Try.func20, Try.ntmps20
    go_wp2_with fail
    refine HL.out.mono ?_
    rintro e w1 ⟨rfl, rfl⟩
    go_wp2_with fail
    (try simp only [Exit.inBlock, Exit.then])
    refine bodyPost_ret (results_none rfl _ _ _) rfl ?_
    exact ⟨rfl, HD.out, Only.refl _ _⟩
theorem crash_nil (kv : Value) (w : World) : Calls Try.prog 20 #[.pointer none, kv] w fun e w' => e = .returned (.tuple #[]) ∧ w = w' := by
  go_enter Try.func20, Try.ntmps20
  go_wp2_with fail
  refine (lost_nil _).mono ?_
  rintro e w1 ⟨rfl, rfl⟩
  go_wp2_with fail
  (try simp only [Exit.inBlock, Exit.then])
  refine bodyPost_ret (results_none rfl _ _ _) rfl ?_
  exact ⟨rfl, rfl⟩
end Go.Proofs.Ytppccdbfnhgdbaa
