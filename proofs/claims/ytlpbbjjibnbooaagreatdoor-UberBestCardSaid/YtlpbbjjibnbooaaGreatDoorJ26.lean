/-
  The best uberblock, by what each slot reads as: plain law of UberBest.
  The last uberblock, spoilt on all devices but one: plain law of UberBest.
-/
import Derived.Test.YtlpbbjjibnbooaaGreatDoorJ25
import Derived.Test.YtlpbbjjibnbooaaGreatDoorJ24
import Derived.Test.YtlpbbjjibnbooaaGreatDoorJ23
namespace Go.Proofs.YtlpbbjjibnbooaaGreatDoor
set_option linter.unusedVariables false
set_option linter.unusedSimpArgs false
open Go.RowKit

/-- What a slot may read as behind the writing of the last one. -/
def upTo (last : UbD) (x : UbD × Int) : Prop := x.2 = 0 → x.1 = last ∨ x.1.t < last.t
def ubLe (last b : UbD) : Prop := b = last ∨ b.t < last.t
theorem bestStep_le {last b : UbD} {x : UbD × Int} (h : upTo last x) (hb : ubLe last b) : ubLe last (bestStep b x) := by
  unfold bestStep
  split
  · rename_i c; exact h c.1
  · exact hb
theorem bestStep_keep {last : UbD} {x : UbD × Int} (h : upTo last x) : bestStep last x = last := by
  unfold bestStep
  split
  · rename_i c
    rcases h c.1 with h | h
    · exact h
    · exfalso; omega
  · rfl
theorem bestStep_hit {last b : UbD} (hb : ubLe last b) : bestStep b (last, 0) = last := by
  unfold bestStep
  rcases hb with rfl | hb
  · rw [if_neg (fun h => by have := h.2; dsimp only at this; omega)]
  · rw [if_pos ⟨rfl, hb⟩]
section
variable {gs : List (Int × Int)} {secs : Int} {aw : List Bool} {ds : List DevD} {last : UbD}
theorem bestD_le {d : Nat} {b : UbD} : ∀ {k : Nat}, (∀ i, i < k → upTo last (uoD gs secs aw ds d i)) → ubLe last b → ubLe last (bestD gs secs aw ds d b k)
  | 0, _, hb => hb
  | k + 1, h, hb => by rw [bestD_step]; exact bestStep_le (h k (Nat.lt_succ_self k)) (bestD_le (fun i hi => h i (Nat.lt_succ_of_lt hi)) hb)
theorem bestD_keep {d : Nat} : ∀ {k : Nat}, (∀ i, i < k → upTo last (uoD gs secs aw ds d i)) → bestD gs secs aw ds d last k = last
  | 0, _ => rfl
  | k + 1, h => by rw [bestD_step, bestD_keep (fun i hi => h i (Nat.lt_succ_of_lt hi))]; exact bestStep_keep (h k (Nat.lt_succ_self k))
theorem bestD_hit {d j : Nat} {b : UbD} (hj : uoD gs secs aw ds d j = (last, 0)) (hb : ubLe last b) : ∀ {k : Nat}, j < k → (∀ i, i < k → upTo last (uoD gs secs aw ds d i)) → bestD gs secs aw ds d b k = last
  | 0, hl, _ => absurd hl (Nat.not_lt_zero _)
  | k + 1, hl, h => by
    rw [bestD_step]
    by_cases e : j = k
    · subst e
      rw [hj]
      exact bestStep_hit (bestD_le (fun i hi => h i (Nat.lt_succ_of_lt hi)) hb)
    · rw [bestD_hit hj hb (by omega) (fun i hi => h i (Nat.lt_succ_of_lt hi))]
      exact bestStep_keep (h k (Nat.lt_succ_self k))
theorem bestA_le : ∀ {n : Nat}, (∀ e, e < n → ∀ j, j < 4 → upTo last (uoD gs secs aw ds e j)) → ubLe last ubZ → ubLe last (bestA gs secs aw ds n)
  | 0, _, hb => hb
  | n + 1, h, hb => by rw [bestA_step]; exact bestD_le (h n (Nat.lt_succ_self n)) (bestA_le (fun e he => h e (Nat.lt_succ_of_lt he)) hb)
theorem bestA_hit {d j : Nat} (hd : uoD gs secs aw ds d j = (last, 0)) (hj : j < 4) (hb : ubLe last ubZ) : ∀ {n : Nat}, d < n → (∀ e, e < n → ∀ j, j < 4 → upTo last (uoD gs secs aw ds e j)) → bestA gs secs aw ds n = last
  | 0, hl, _ => absurd hl (Nat.not_lt_zero _)
  | n + 1, hl, h => by
    rw [bestA_step]
    by_cases e : d = n
    · subst e
      exact bestD_hit hd (bestA_le (fun e he => h e (Nat.lt_succ_of_lt he)) hb) hj (h d (Nat.lt_succ_self d))
    · rw [bestA_hit hd hj hb (by omega) (fun e he => h e (Nat.lt_succ_of_lt he))]
      exact bestD_keep (h n (Nat.lt_succ_self n))
theorem best_is {n d j : Nat} (h : ∀ e, e < n → ∀ j, j < 4 → upTo last (uoD gs secs aw ds e j)) (hdn : d < n) (hj : j < 4) (hd : uoD gs secs aw ds d j = (last, 0)) (ht : 0 < last.t) : bestR gs secs aw ds n = (last, 0) := by
  unfold bestR
  rw [bestA_hit hd hj (.inr ht) hdn h, if_neg (by omega)]
theorem bestA_none : ∀ {n : Nat}, (∀ e, e < n → ∀ j, j < 4 → upTo ubZ (uoD gs secs aw ds e j)) → bestA gs secs aw ds n = ubZ
  | 0, _ => rfl
  | n + 1, h => by rw [bestA_step, bestA_none (fun e he => h e (Nat.lt_succ_of_lt he))]; exact bestD_keep (h n (Nat.lt_succ_self n))
theorem best_none {n : Nat} (h : ∀ e, e < n → ∀ j, j < 4 → upTo ubZ (uoD gs secs aw ds e j)) : bestR gs secs aw ds n = (ubZ, 7) := by
  unfold bestR
  rw [bestA_none h, if_pos (show ubZ.t = 0 from rfl)]
end
/-- Behind writings with rising groups. -/
structure BInv (gs : List (Int × Int)) (secs : Int) (aw : List Bool) (ds : List DevD) (n : Nat) (last : UbD) : Prop where
  up : ∀ e, e < n → ∀ j, j < 4 → upTo last (uoD gs secs aw ds e j)
  hit : last = ubZ ∨ (0 < last.t ∧ (∃ e, e < n ∧ hereD aw ds e = true) ∧ ubOk gs secs last.t last.n last.p = true ∧ last.p.Ok ∧ nRightB gs secs last.n last.p = true ∧ ∀ e, e < n → hereD aw ds e = true → slotL ds e (last.t.toNat % 4 * 4) 4 = ubL gs secs last.t last.n last.p)
theorem uoD_out {gs : List (Int × Int)} {secs : Int} {aw : List Bool} {ds : List DevD} {e j : Nat} (h : hereD aw ds e = false) : uoD gs secs aw ds e j = (ubZ, 6) := by
  unfold uoD
  rw [h]
  rfl
theorem uoD_in {gs : List (Int × Int)} {secs : Int} {aw : List Bool} {ds : List DevD} {e j : Nat} (h : hereD aw ds e = true) : uoD gs secs aw ds e j = urD gs secs (slotL ds e (j * 4) 4) := by
  unfold uoD
  rw [h]
  rfl
theorem upTo_out {last : UbD} {z : UbD} {x : Int} (h : x ≠ 0) : upTo last (z, x) := fun e => absurd e h
theorem slotL_congr {ds es : List DevD} {e : Nat} (h : ds[e]? = es[e]?) (b i : Nat) : slotL ds e b i = slotL es e b i := by
  unfold slotL
  congr 1
  refine List.map_congr_left fun j _ => ?_
  unfold look
  show (match ds[(ubCol e b j).1.toNat]? with | some d => _ | none => _) = _
  have e1 : (ubCol e b j).1.toNat = e := Int.toNat_natCast _
  rw [e1, h]
  rfl
theorem binv_start {gs : List (Int × Int)} {sn n : Nat} {ll : List Bool} (hs24 : 24 ≤ sn) : BInv gs (sn : Int) (awT [] n n) (lsT ll (DevD.blank sn 0) n n) n ubZ := by
  refine ⟨fun e he j hj => ?_, .inl rfl⟩
  cases hh : hereD (awT [] n n) (lsT ll (DevD.blank sn 0) n n) e with
  | false => rw [uoD_out hh]; exact upTo_out (by decide)
  | true =>
    rw [uoD_in hh]
    rw [lsT_here he] at hh
    have hb : bAt ll e = false := by revert hh; cases bAt ll e <;> simp
    have hd : (lsT ll (DevD.blank sn 0) n n)[e]? = (List.replicate n (DevD.blank sn 0))[e]? := by
      rw [lsT_at he, hb, Bool.and_false, if_neg Bool.false_ne_true, List.getElem?_replicate_of_lt he]
    rw [slotL_congr hd, slot_blank he (by omega), ur_zero]
    exact upTo_out (by decide)
theorem goneN_all {aw : List Bool} {ds : List DevD} {n : Nat} : goneN aw ds n = n ↔ ∀ e, e < n → hereD aw ds e = false := by
  unfold goneN
  constructor
  · intro h e he
    have h2 : ((List.range n).filter fun i => !hereD aw ds i).length = (List.range n).length := by rw [h, List.length_range]
    have := List.length_filter_eq_length_iff.1 h2 e (List.mem_range.2 he)
    simpa using this
  · intro h
    have h2 : ((List.range n).filter fun i => !hereD aw ds i).length = (List.range n).length := List.length_filter_eq_length_iff.2 fun e he => by rw [h e (List.mem_range.1 he)]; rfl
    rw [h2, List.length_range]
theorem binv_fail {gs : List (Int × Int)} {secs : Int} {aw : List Bool} {ds : List DevD} {n : Nat} {last : UbD} {t nn : Int} {p : PtrD} (hv : BInv gs secs aw ds n last) (hn : ds.length = n) (hE : uwE gs secs aw t nn p ds ≠ 0) : BInv gs secs aw (uwD gs secs aw t nn p ds) n last := by
  unfold uwE at hE
  unfold uwD
  by_cases h1 : ubOk gs secs t nn p = true
  · rw [if_pos h1] at hE ⊢
    rw [hn] at hE ⊢
    have h2 : goneN aw ds n = n := Classical.byContradiction fun h => hE (by rw [if_neg h])
    have h3 := goneN_all.1 h2
    refine ⟨fun e he j _ => ?_, ?_⟩
    · rw [uoD_out (by rw [ubAll_here]; exact h3 e he)]
      exact upTo_out (by decide)
    · rcases hv.hit with h | h
      · exact .inl h
      · obtain ⟨e, he, hh⟩ := h.2.1
        rw [h3 e he] at hh
        cases hh
  · rw [if_neg h1]
    exact hv
theorem binv_write {gs : List (Int × Int)} {sn N : Nat} {aw : List Bool} {ds : List DevD} {n : Nat} {last : UbD} {t nn : Int} {p : PtrD} (hv : BInv gs (sn : Int) aw ds n last) (hn : ds.length = n) (ok : DsOk N sn ds) (hs24 : 24 ≤ sn) (hgt : last.t < t) (op : p.Ok) (hr : nRightB gs (sn : Int) nn p = true)
    (hE : uwE gs (sn : Int) aw t nn p ds = 0) : BInv gs (sn : Int) aw (uwD gs (sn : Int) aw t nn p ds) n ⟨t, nn, p⟩ := by
  unfold uwE at hE
  unfold uwD
  by_cases h1 : ubOk gs (sn : Int) t nn p = true
  · rw [if_pos h1] at hE ⊢
    have hp := ubOk_parts h1
    have hlen := ubL_len (gs := gs) (secs := (sn : Int)) (t := t) hp.2.2.2 op
    have hsw : ∀ e j, e < n → j < 4 → hereD aw ds e = true → slotL (ubAll aw (t.toNat % 4 * 4) (ubL gs (sn : Int) t nn p) ds ds.length) e (j * 4) 4 = if t.toNat % 4 * 4 = j * 4 then ubL gs (sn : Int) t nn p else slotL ds e (j * 4) 4 := fun e j he hj hh =>
      slot_wr hlen (by omega) (by omega) (by omega) ok hh (by omega)
    have hback := ur_back h1 op
    rw [hr, if_pos rfl] at hback
    refine ⟨fun e he j hj => ?_, .inr ⟨by show 0 < t; omega, ?_, h1, op, hr, fun e he hh => ?_⟩⟩
    · cases hh : hereD aw ds e with
      | false => rw [uoD_out (by rw [ubAll_here]; exact hh)]; exact upTo_out (by decide)
      | true =>
        rw [uoD_in (by rw [ubAll_here]; exact hh), hsw e j he hj hh]
        by_cases c : t.toNat % 4 * 4 = j * 4
        · rw [if_pos c, hback]
          exact fun _ => .inl rfl
        · rw [if_neg c]
          have := hv.up e he j hj
          rw [uoD_in hh] at this
          intro h0
          rcases this h0 with h | h
          · exact .inr (by rw [h]; exact hgt)
          · exact .inr (by show _ < t; omega)
    · by_cases hg : goneN aw ds ds.length = ds.length
      · rw [if_pos hg] at hE; cases hE
      · rw [hn] at hg
        refine Classical.byContradiction fun hne => hg (goneN_all.2 fun e he => ?_)
        cases hh : hereD aw ds e with
        | false => rfl
        | true => exact absurd ⟨e, he, by rw [ubAll_here]; exact hh⟩ hne
    · rw [ubAll_here] at hh
      show slotL _ e (t.toNat % 4 * 4) 4 = _
      rw [hsw e (t.toNat % 4) he (Nat.mod_lt _ (by decide)) hh, if_pos rfl]
  · rw [if_neg h1] at hE
    cases hE
theorem binv_best {gs : List (Int × Int)} {secs : Int} {aw : List Bool} {ds : List DevD} {n : Nat} {last : UbD} (hv : BInv gs secs aw ds n last) : bestR gs secs aw ds n = if last.t = 0 then (ubZ, 7) else (last, 0) := by
  rcases hv.hit with h | ⟨h1, ⟨e, he, hh⟩, h2, op, hr, hs⟩
  · subst h
    rw [if_pos (show ubZ.t = 0 from rfl)]
    exact best_none hv.up
  · rw [if_neg (by omega)]
    refine best_is hv.up he (Nat.mod_lt last.t.toNat (by decide)) ?_ h1
    rw [uoD_in hh, hs e he hh, ur_back h2 op, hr, if_pos rfl]
theorem binv_zero {gs : List (Int × Int)} {secs : Int} {aw : List Bool} {ds : List DevD} {n : Nat} {last : UbD} (hv : BInv gs secs aw ds n last) (h : last.t = 0) : last = ubZ := by
  rcases hv.hit with h1 | h1
  · exact h1
  · have := h1.1
    exfalso
    omega
end Go.Proofs.YtlpbbjjibnbooaaGreatDoor

namespace Go.Proofs.YtlpbbjjibnbooaaGreatDoor
set_option linter.unusedVariables false
set_option linter.unusedSimpArgs false
open Go.RowKit

theorem spK_mayE (d : DevD) (a p e : Int) (b : UInt8) : (d.spoil a p b).mayE e = d.mayE e := by
  unfold DevD.mayE
  rw [DevD.spoil_lost', DevD.spoil_medlen]
theorem spK_same {d : DevD} {a p : Int} {b : UInt8} (h : d.spoilOk a b = true) : (d.spoil a p b).now a.toNat = DevD.flip (d.now a.toNat) (DevD.spot p) b := by
  have hm : d.mayE a = 0 := by simp only [DevD.spoilOk, Bool.and_eq_true, decide_eq_true_eq] at h; exact h.1
  have hk := (DevD.mayE_ok hm)
  unfold DevD.spoil
  rw [if_pos h]
  generalize DevD.flip (d.now a.toNat) (DevD.spot p) b = s
  unfold DevD.spoiled
  split
  · rename_i he
    unfold DevD.now
    show lastOr (d.cac a.toNat) ((d.med.set a.toNat s).getD a.toNat []) = s
    rw [List.isEmpty_iff.1 he, List.getD_eq_getElem?_getD, List.getElem?_set, if_pos rfl, if_pos (by omega)]
    rfl
  · rename_i he
    unfold DevD.now lastOr
    show ((if a.toNat = a.toNat then (d.cac a.toNat).set ((d.cac a.toNat).length - 1) s else d.cac a.toNat).getLast?).getD _ = s
    rw [if_pos rfl, List.getLast?_eq_getElem?, List.length_set, List.getElem?_set, if_pos rfl, if_pos (by
      have : 0 < (d.cac a.toNat).length := List.length_pos_iff.2 (fun h => he (by rw [h]; rfl))
      omega)]
    rfl
theorem spK_other {d : DevD} {a p : Int} {b : UInt8} {k : Nat} (h : k ≠ a.toNat) : (d.spoil a p b).now k = d.now k := by
  unfold DevD.spoil
  split
  · unfold DevD.spoiled
    split
    · unfold DevD.now DevD.medAt
      show lastOr (d.cac k) ((d.med.set a.toNat _).getD k []) = _
      rw [List.getD_eq_getElem?_getD, List.getElem?_set, if_neg (fun e => h e.symm), ← List.getD_eq_getElem?_getD]
    · unfold DevD.now DevD.medAt
      show lastOr (if k = a.toNat then _ else d.cac k) _ = _
      rw [if_neg h]
  · rfl
/-- All devices but one are spoilt. -/
def spTo (k : Nat) (a p : Int) (b : UInt8) (ds : List DevD) (m : Nat) : List DevD := (List.range m).foldl (fun ds d => if d = k then ds else spoilAt ds d a p b) ds
section
variable {k : Nat} {a p : Int} {b : UInt8} {ds : List DevD}
theorem spTo_step (m : Nat) : spTo k a p b ds (m + 1) = if m = k then spTo k a p b ds m else spoilAt (spTo k a p b ds m) m a p b := by
  unfold spTo
  rw [List.range_succ, List.foldl_append]
  rfl
theorem spTo_ok {N secs : Nat} (h : DsOk N secs ds) : ∀ m, DsOk N secs (spTo k a p b ds m)
  | 0 => h
  | m + 1 => by
    rw [spTo_step]
    split
    · exact spTo_ok h m
    · exact spoilAt_ok (spTo_ok h m) _ _ _ _
theorem spTo_hereD {aw : List Bool} (j : Nat) : ∀ m, hereD aw (spTo k a p b ds m) j = hereD aw ds j
  | 0 => rfl
  | m + 1 => by
    rw [spTo_step]
    split
    · exact spTo_hereD j m
    · rw [spoilAt_hereD, spTo_hereD j m]
theorem spTo_at (e : Nat) : ∀ m, (spTo k a p b ds m)[e]? = if e < m ∧ e ≠ k then (ds[e]?).map (fun d => d.spoil a p b) else ds[e]?
  | 0 => by rw [if_neg (by omega)]; rfl
  | m + 1 => by
    rw [spTo_step]
    have ih := spTo_at e m
    split
    · rename_i hm
      rw [ih]
      by_cases c : e < m ∧ e ≠ k
      · rw [if_pos c, if_pos ⟨by omega, c.2⟩]
      · rw [if_neg c, if_neg (fun h => c ⟨by omega, h.2⟩)]
    · rename_i hm
      unfold spoilAt
      by_cases hem : e = m
      · subst hem
        rw [if_neg (by omega)] at ih
        rw [if_pos ⟨by omega, hm⟩]
        split
        · rename_i d hd
          rw [hd] at ih
          rw [List.getElem?_set, if_pos rfl, if_pos (List.getElem?_eq_some_iff.1 hd).1, ← ih]
          rfl
        · rename_i hd
          rw [hd] at ih
          rw [hd, ← ih]
          rfl
      · have hq : (if e < m + 1 ∧ e ≠ k then (ds[e]?).map (fun d => d.spoil a p b) else ds[e]?) = if e < m ∧ e ≠ k then (ds[e]?).map (fun d => d.spoil a p b) else ds[e]? := by
          by_cases c : e < m ∧ e ≠ k
          · rw [if_pos c, if_pos ⟨by omega, c.2⟩]
          · rw [if_neg c, if_neg (fun h => c ⟨by omega, h.2⟩)]
        rw [hq, ← ih]
        split
        · rw [List.getElem?_set, if_neg (fun h => hem h.symm)]
        · rfl
end
theorem set_appR {α : Type} {l1 l2 : List α} {L i : Nat} (h : l1.length = L) (x : α) : (l1 ++ l2).set (L + i) x = l1 ++ l2.set i x := by
  rw [List.set_append_right _ _ (by omega)]
  congr 2
  omega
theorem get_appR {l1 l2 : List UInt8} {L i : Nat} (h : l1.length = L) : (l1 ++ l2).getD (L + i) 0 = l2.getD i 0 := by
  rw [List.getD_eq_getElem?_getD, List.getElem?_append_right (by omega), ← List.getD_eq_getElem?_getD]
  congr 1
  omega
theorem set_appL {α : Type} {l1 l2 : List α} {i : Nat} (h : i < l1.length) (x : α) : (l1 ++ l2).set i x = l1.set i x ++ l2 := List.set_append_left _ _ h
theorem get_appL {l1 l2 : List UInt8} {i : Nat} (h : i < l1.length) : (l1 ++ l2).getD i 0 = l1.getD i 0 := by
  rw [List.getD_eq_getElem?_getD, List.getElem?_append_left h, ← List.getD_eq_getElem?_getD]
theorem flat4 (f : Nat → List UInt8) : ((List.range 4).map f).flatten = f 0 ++ (f 1 ++ (f 2 ++ f 3)) := by
  simp only [List.range_succ, List.range_zero, List.nil_append, List.map_append, List.map_cons, List.map_nil, List.flatten_append, List.flatten_cons, List.flatten_nil, List.append_nil, List.append_assoc]
theorem flat4_flip {f g : Nat → List UInt8} (hl : ∀ j, j < 4 → (f j).length = 64) {r i : Nat} (hr : r < 4) (hi : i < 64) (b : UInt8) (hg : ∀ j, j < 4 → g j = if j = r then DevD.flip (f j) i b else f j) :
    ((List.range 4).map g).flatten = (((List.range 4).map f).flatten).set (r * 64 + i) ((((List.range 4).map f).flatten).getD (r * 64 + i) 0 ^^^ b) := by
  rw [flat4, flat4, hg 0 (by decide), hg 1 (by decide), hg 2 (by decide), hg 3 (by decide)]
  have h0 := hl 0 (by decide)
  have h1 := hl 1 (by decide)
  have h2 := hl 2 (by decide)
  have h3 := hl 3 (by decide)
  unfold DevD.flip
  match r, hr with
  | 0, _ =>
    rw [if_pos rfl, if_neg (by decide), if_neg (by decide), if_neg (by decide), show 0 * 64 + i = i by omega, get_appL (by omega), set_appL (by omega)]
  | 1, _ =>
    rw [if_neg (by decide), if_pos rfl, if_neg (by decide), if_neg (by decide), show 1 * 64 + i = 64 + i by omega, get_appR h0, set_appR h0, get_appL (by omega), set_appL (by omega)]
  | 2, _ =>
    rw [if_neg (by decide), if_neg (by decide), if_pos rfl, if_neg (by decide), show 2 * 64 + i = 64 + (64 + i) by omega, get_appR h0, set_appR h0, get_appR h1, set_appR h1, get_appL (by omega), set_appL (by omega)]
  | 3, _ =>
    rw [if_neg (by decide), if_neg (by decide), if_neg (by decide), if_pos rfl, show 3 * 64 + i = 64 + (64 + (64 + i)) by omega, get_appR h0, set_appR h0, get_appR h1, set_appR h1, get_appR h2, set_appR h2]
theorem look_at {ds : List DevD} {e : Nat} {d : DevD} (hd : ds[e]? = some d) (b j : Nat) : look ds (ubCol e b j) = d.rdS ((b + j : Nat) : Int) := by
  unfold look
  have e1 : (ubCol e b j).1.toNat = e := Int.toNat_natCast _
  rw [e1, hd]
  rfl
theorem rdS_in {d : DevD} {x : Nat} (h : x < d.med.length) (hl : d.lost = false) : d.rdS (x : Int) = d.now x := by
  have hm : d.mayE (x : Int) = 0 := by
    unfold DevD.mayE
    rw [hl, if_neg Bool.false_ne_true, if_neg (by omega)]
  unfold DevD.rdS
  rw [if_pos hm, Int.toNat_natCast]
theorem now_len {d : DevD} (h : d.Ok) {x : Nat} (hx : x < d.med.length) : (d.now x).length = 64 := by
  refine DevD.lastOr_len (h.cac _) ?_
  unfold DevD.medAt
  rw [List.getD_eq_getElem?_getD, List.getElem?_eq_getElem hx]
  exact h.med _ (List.getElem_mem hx)
theorem spot_lt (p : Int) : DevD.spot p < 64 := by
  unfold DevD.spot
  have h4 := Int.tmod_lt_of_pos (p.tmod 64 + 64) (show (0 : Int) < 64 by decide)
  omega
section
variable {ds es : List DevD} {d : DevD} {e base secs N : Nat} {a p : Int} {b : UInt8}
theorem slot_spoil {r : Nat} (ok : DsOk N secs ds) (hd : ds[e]? = some d) (he : es[e]? = some (d.spoil a p b)) (ha : a = ((base + r : Nat) : Int)) (hr : r < 4) (hb : base + 4 ≤ secs) (hl : d.lost = false) (hb0 : b ≠ 0) :
    slotL es e base 4 = (slotL ds e base 4).set (r * 64 + DevD.spot p) ((slotL ds e base 4).getD (r * 64 + DevD.spot p) 0 ^^^ b) := by
  obtain ⟨o1, o2, _, _⟩ := ok d (List.mem_of_getElem? hd)
  subst ha
  have hso : d.spoilOk ((base + r : Nat) : Int) b = true := by
    have hm : d.mayE ((base + r : Nat) : Int) = 0 := by
      unfold DevD.mayE
      rw [hl, if_neg Bool.false_ne_true, if_neg (by omega)]
    unfold DevD.spoilOk
    rw [hm]
    simp [hb0]
  have hf : ∀ j, j < 4 → look ds (ubCol e base j) = d.now (base + j) := fun j hj => by rw [look_at hd, rdS_in (by omega) hl]
  have hm2 : (d.spoil ((base + r : Nat) : Int) p b).med.length = secs := by rw [DevD.spoil_medlen]; exact o2
  unfold slotL
  refine flat4_flip (fun j hj => by rw [hf j hj]; exact now_len o1 (by omega)) hr (spot_lt p) b fun j hj => ?_
  rw [look_at he, rdS_in (by omega) (by rw [DevD.spoil_lost']; exact hl), hf j hj]
  by_cases c : j = r
  · subst c
    rw [if_pos rfl]
    have := spK_same (p := p) hso
    rwa [Int.toNat_natCast] at this
  · rw [if_neg c]
    exact spK_other (by rw [Int.toNat_natCast]; omega)
theorem slot_spoil_other {b2 : Nat} (hd : ds[e]? = some d) (he : es[e]? = some (d.spoil a p b)) (ha : ∀ j, j < 4 → b2 + j ≠ a.toNat) : slotL es e b2 4 = slotL ds e b2 4 := by
  unfold slotL
  congr 1
  refine List.map_congr_left fun j hj => ?_
  rw [look_at he, look_at hd]
  unfold DevD.rdS
  rw [spK_mayE, Int.toNat_natCast, spK_other (ha j (List.mem_range.1 hj))]
end
/-- The last one is still the best. -/
theorem best_spoilt {gs : List (Int × Int)} {sn N : Nat} {aw : List Bool} {ds : List DevD} {n k q : Nat} {b : UInt8} {last : UbD} (hv : BInv gs (sn : Int) aw ds n last) (ht : last.t ≠ 0) (hn : ds.length = n) (ok : DsOk N sn ds) (hs24 : 24 ≤ sn) (hk : k < n) (hh : hereD aw ds k = true) (hb : b ≠ 0) (m : Nat) (p : Int) :
    bestR gs (sn : Int) aw (spTo k ((last.t.toNat % 4 * 4 + q % 4 : Nat) : Int) p b ds m) n = (last, 0) := by
  rcases hv.hit with h | ⟨h1, _, h2, op, hr, hs⟩
  · exact absurd (by rw [h]; rfl) ht
  have hback := ur_back h2 op
  rw [hr, if_pos rfl] at hback
  have hlen := ubL_len (gs := gs) (secs := (sn : Int)) (t := last.t) (ubOk_parts h2).2.2.2 op
  refine best_is (d := k) (j := last.t.toNat % 4) (fun e he j hj => ?_) hk (Nat.mod_lt _ (by decide)) ?_ h1
  · cases hc : hereD aw ds e with
    | false => rw [uoD_out (by rw [spTo_hereD]; exact hc)]; exact upTo_out (by decide)
    | true =>
      rw [uoD_in (by rw [spTo_hereD]; exact hc)]
      have hup := hv.up e he j hj
      rw [uoD_in hc] at hup
      have hat := spTo_at (k := k) (a := ((last.t.toNat % 4 * 4 + q % 4 : Nat) : Int)) (p := p) (b := b) (ds := ds) e m
      by_cases c : e < m ∧ e ≠ k
      · rw [if_pos c] at hat
        obtain ⟨d, hd⟩ : ∃ d, ds[e]? = some d := ⟨_, List.getElem?_eq_getElem (by omega)⟩
        rw [hd] at hat
        have hl : d.lost = false := by
          unfold hereD at hc
          rw [hd] at hc
          simp only [Bool.and_eq_true, Bool.not_eq_true'] at hc
          exact hc.2
        by_cases cj : j = last.t.toNat % 4
        · subst cj
          have hr4 : q % 4 < 4 := Nat.mod_lt _ (by decide)
          have hsp := spot_lt p
          rw [slot_spoil ok hd hat rfl hr4 (by omega) hl hb, hs e he hc]
          have hi : q % 4 * 64 + DevD.spot p < 256 := by omega
          have hx : (ubL gs (sn : Int) last.t last.n last.p)[q % 4 * 64 + DevD.spot p]? = some ((ubL gs (sn : Int) last.t last.n last.p).getD (q % 4 * 64 + DevD.spot p) 0) := by
            rw [List.getD_eq_getElem?_getD, List.getElem?_eq_getElem (by omega)]
            rfl
          rw [ur_spoil h2 op hi hx, if_neg hb]
          exact upTo_out (by decide)
        · rw [slot_spoil_other hd hat (fun i hi => by rw [Int.toNat_natCast]; omega)]
          exact hup
      · rw [if_neg c] at hat
        rw [slotL_congr hat]
        exact hup
  · have hat := spTo_at (k := k) (a := ((last.t.toNat % 4 * 4 + q % 4 : Nat) : Int)) (p := p) (b := b) (ds := ds) k m
    rw [if_neg (fun h => h.2 rfl)] at hat
    rw [uoD_in (by rw [spTo_hereD]; exact hh), slotL_congr hat, hs k hk hh, hback]
end Go.Proofs.YtlpbbjjibnbooaaGreatDoor
