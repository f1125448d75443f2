/-
  The last uberblock, spoilt on all devices but one: plain law of UberBest.
-/
import Derived.Test.YtlpbbjjibnbooaaGreatDoorJ25
import Derived.Test.YtlpbbjjibnbooaaGreatDoorJ23
namespace Go.Proofs.YtlpbbjjibnbooaaGreatDoor
set_option linter.unusedVariables false
set_option linter.unusedSimpArgs false
open Go.RowKit

theorem spK_mayE (d : DevD) (a p e : Int) (b : UInt8) : (d.spoil a p b).mayE e = d.mayE e := by
  unfold DevD.mayE
  rw [DevD.spoil_lost', DevD.spoil_medlen]
theorem spK_same {d : DevD} {a p : Int} {b : UInt8} (h : d.spoilOk a b = true) : (d.spoil a p b).now a.toNat = DevD.flip (d.now a.toNat) (DevD.spot p) b := by
  have hm : d.mayE a = 0 := by simp only [DevD.spoilOk, Bool.and_eq_true, decide_eq_true_eq] at h; exact h.1
  have hk := (DevD.mayE_ok hm)
  unfold DevD.spoil
  rw [if_pos h]
  generalize DevD.flip (d.now a.toNat) (DevD.spot p) b = s
  unfold DevD.spoiled
  split
  · rename_i he
    unfold DevD.now
    show lastOr (d.cac a.toNat) ((d.med.set a.toNat s).getD a.toNat []) = s
    rw [List.isEmpty_iff.1 he, List.getD_eq_getElem?_getD, List.getElem?_set, if_pos rfl, if_pos (by omega)]
    rfl
  · rename_i he
    unfold DevD.now lastOr
    show ((if a.toNat = a.toNat then (d.cac a.toNat).set ((d.cac a.toNat).length - 1) s else d.cac a.toNat).getLast?).getD _ = s
    rw [if_pos rfl, List.getLast?_eq_getElem?, List.length_set, List.getElem?_set, if_pos rfl, if_pos (by
      have : 0 < (d.cac a.toNat).length := List.length_pos_iff.2 (fun h => he (by rw [h]; rfl))
      omega)]
    rfl
theorem spK_other {d : DevD} {a p : Int} {b : UInt8} {k : Nat} (h : k ≠ a.toNat) : (d.spoil a p b).now k = d.now k := by
  unfold DevD.spoil
  split
  · unfold DevD.spoiled
    split
    · unfold DevD.now DevD.medAt
      show lastOr (d.cac k) ((d.med.set a.toNat _).getD k []) = _
      rw [List.getD_eq_getElem?_getD, List.getElem?_set, if_neg (fun e => h e.symm), ← List.getD_eq_getElem?_getD]
    · unfold DevD.now DevD.medAt
      show lastOr (if k = a.toNat then _ else d.cac k) _ = _
      rw [if_neg h]
  · rfl
/-- All devices but one are spoilt. -/
def spTo (k : Nat) (a p : Int) (b : UInt8) (ds : List DevD) (m : Nat) : List DevD := (List.range m).foldl (fun ds d => if d = k then ds else spoilAt ds d a p b) ds
section
variable {k : Nat} {a p : Int} {b : UInt8} {ds : List DevD}
theorem spTo_step (m : Nat) : spTo k a p b ds (m + 1) = if m = k then spTo k a p b ds m else spoilAt (spTo k a p b ds m) m a p b := by
  unfold spTo
  rw [List.range_succ, List.foldl_append]
  rfl
theorem spTo_ok {N secs : Nat} (h : DsOk N secs ds) : ∀ m, DsOk N secs (spTo k a p b ds m)
  | 0 => h
  | m + 1 => by
    rw [spTo_step]
    split
    · exact spTo_ok h m
    · exact spoilAt_ok (spTo_ok h m) _ _ _ _
theorem spTo_hereD {aw : List Bool} (j : Nat) : ∀ m, hereD aw (spTo k a p b ds m) j = hereD aw ds j
  | 0 => rfl
  | m + 1 => by
    rw [spTo_step]
    split
    · exact spTo_hereD j m
    · rw [spoilAt_hereD, spTo_hereD j m]
theorem spTo_at (e : Nat) : ∀ m, (spTo k a p b ds m)[e]? = if e < m ∧ e ≠ k then (ds[e]?).map (fun d => d.spoil a p b) else ds[e]?
  | 0 => by rw [if_neg (by omega)]; rfl
  | m + 1 => by
    rw [spTo_step]
    have ih := spTo_at e m
    split
    · rename_i hm
      rw [ih]
      by_cases c : e < m ∧ e ≠ k
      · rw [if_pos c, if_pos ⟨by omega, c.2⟩]
      · rw [if_neg c, if_neg (fun h => c ⟨by omega, h.2⟩)]
    · rename_i hm
      unfold spoilAt
      by_cases hem : e = m
      · subst hem
        rw [if_neg (by omega)] at ih
        rw [if_pos ⟨by omega, hm⟩]
        split
        · rename_i d hd
          rw [hd] at ih
          rw [List.getElem?_set, if_pos rfl, if_pos (List.getElem?_eq_some_iff.1 hd).1, ← ih]
          rfl
        · rename_i hd
          rw [hd] at ih
          rw [hd, ← ih]
          rfl
      · have hq : (if e < m + 1 ∧ e ≠ k then (ds[e]?).map (fun d => d.spoil a p b) else ds[e]?) = if e < m ∧ e ≠ k then (ds[e]?).map (fun d => d.spoil a p b) else ds[e]? := by
          by_cases c : e < m ∧ e ≠ k
          · rw [if_pos c, if_pos ⟨by omega, c.2⟩]
          · rw [if_neg c, if_neg (fun h => c ⟨by omega, h.2⟩)]
        rw [hq, ← ih]
        split
        · rw [List.getElem?_set, if_neg (fun h => hem h.symm)]
        · rfl
end
theorem set_appR {α : Type} {l1 l2 : List α} {L i : Nat} (h : l1.length = L) (x : α) : (l1 ++ l2).set (L + i) x = l1 ++ l2.set i x := by
  rw [List.set_append_right _ _ (by omega)]
  congr 2
  omega
theorem get_appR {l1 l2 : List UInt8} {L i : Nat} (h : l1.length = L) : (l1 ++ l2).getD (L + i) 0 = l2.getD i 0 := by
  rw [List.getD_eq_getElem?_getD, List.getElem?_append_right (by omega), ← List.getD_eq_getElem?_getD]
  congr 1
  omega
theorem set_appL {α : Type} {l1 l2 : List α} {i : Nat} (h : i < l1.length) (x : α) : (l1 ++ l2).set i x = l1.set i x ++ l2 := List.set_append_left _ _ h
theorem get_appL {l1 l2 : List UInt8} {i : Nat} (h : i < l1.length) : (l1 ++ l2).getD i 0 = l1.getD i 0 := by
  rw [List.getD_eq_getElem?_getD, List.getElem?_append_left h, ← List.getD_eq_getElem?_getD]
theorem flat4 (f : Nat → List UInt8) : ((List.range 4).map f).flatten = f 0 ++ (f 1 ++ (f 2 ++ f 3)) := by
  simp only [List.range_succ, List.range_zero, List.nil_append, List.map_append, List.map_cons, List.map_nil, List.flatten_append, List.flatten_cons, List.flatten_nil, List.append_nil, List.append_assoc]
theorem flat4_flip {f g : Nat → List UInt8} (hl : ∀ j, j < 4 → (f j).length = 64) {r i : Nat} (hr : r < 4) (hi : i < 64) (b : UInt8) (hg : ∀ j, j < 4 → g j = if j = r then DevD.flip (f j) i b else f j) :
    ((List.range 4).map g).flatten = (((List.range 4).map f).flatten).set (r * 64 + i) ((((List.range 4).map f).flatten).getD (r * 64 + i) 0 ^^^ b) := by
  rw [flat4, flat4, hg 0 (by decide), hg 1 (by decide), hg 2 (by decide), hg 3 (by decide)]
  have h0 := hl 0 (by decide)
  have h1 := hl 1 (by decide)
  have h2 := hl 2 (by decide)
  have h3 := hl 3 (by decide)
  unfold DevD.flip
  match r, hr with
  | 0, _ =>
    rw [if_pos rfl, if_neg (by decide), if_neg (by decide), if_neg (by decide), show 0 * 64 + i = i by omega, get_appL (by omega), set_appL (by omega)]
  | 1, _ =>
    rw [if_neg (by decide), if_pos rfl, if_neg (by decide), if_neg (by decide), show 1 * 64 + i = 64 + i by omega, get_appR h0, set_appR h0, get_appL (by omega), set_appL (by omega)]
  | 2, _ =>
    rw [if_neg (by decide), if_neg (by decide), if_pos rfl, if_neg (by decide), show 2 * 64 + i = 64 + (64 + i) by omega, get_appR h0, set_appR h0, get_appR h1, set_appR h1, get_appL (by omega), set_appL (by omega)]
  | 3, _ =>
    rw [if_neg (by decide), if_neg (by decide), if_neg (by decide), if_pos rfl, show 3 * 64 + i = 64 + (64 + (64 + i)) by omega, get_appR h0, set_appR h0, get_appR h1, set_appR h1, get_appR h2, set_appR h2]
theorem look_at {ds : List DevD} {e : Nat} {d : DevD} (hd : ds[e]? = some d) (b j : Nat) : look ds (ubCol e b j) = d.rdS ((b + j : Nat) : Int) := by
  unfold look
  have e1 : (ubCol e b j).1.toNat = e := Int.toNat_natCast _
  rw [e1, hd]
  rfl
theorem rdS_in {d : DevD} {x : Nat} (h : x < d.med.length) (hl : d.lost = false) : d.rdS (x : Int) = d.now x := by
  have hm : d.mayE (x : Int) = 0 := by
    unfold DevD.mayE
    rw [hl, if_neg Bool.false_ne_true, if_neg (by omega)]
  unfold DevD.rdS
  rw [if_pos hm, Int.toNat_natCast]
theorem now_len {d : DevD} (h : d.Ok) {x : Nat} (hx : x < d.med.length) : (d.now x).length = 64 := by
  refine DevD.lastOr_len (h.cac _) ?_
  unfold DevD.medAt
  rw [List.getD_eq_getElem?_getD, List.getElem?_eq_getElem hx]
  exact h.med _ (List.getElem_mem hx)
theorem spot_lt (p : Int) : DevD.spot p < 64 := by
  unfold DevD.spot
  have h4 := Int.tmod_lt_of_pos (p.tmod 64 + 64) (show (0 : Int) < 64 by decide)
  omega
section
variable {ds es : List DevD} {d : DevD} {e base secs N : Nat} {a p : Int} {b : UInt8}
theorem slot_spoil {r : Nat} (ok : DsOk N secs ds) (hd : ds[e]? = some d) (he : es[e]? = some (d.spoil a p b)) (ha : a = ((base + r : Nat) : Int)) (hr : r < 4) (hb : base + 4 ≤ secs) (hl : d.lost = false) (hb0 : b ≠ 0) :
    slotL es e base 4 = (slotL ds e base 4).set (r * 64 + DevD.spot p) ((slotL ds e base 4).getD (r * 64 + DevD.spot p) 0 ^^^ b) := by
  obtain ⟨o1, o2, _, _⟩ := ok d (List.mem_of_getElem? hd)
  subst ha
  have hso : d.spoilOk ((base + r : Nat) : Int) b = true := by
    have hm : d.mayE ((base + r : Nat) : Int) = 0 := by
      unfold DevD.mayE
      rw [hl, if_neg Bool.false_ne_true, if_neg (by omega)]
    unfold DevD.spoilOk
    rw [hm]
    simp [hb0]
  have hf : ∀ j, j < 4 → look ds (ubCol e base j) = d.now (base + j) := fun j hj => by rw [look_at hd, rdS_in (by omega) hl]
  have hm2 : (d.spoil ((base + r : Nat) : Int) p b).med.length = secs := by rw [DevD.spoil_medlen]; exact o2
  unfold slotL
  refine flat4_flip (fun j hj => by rw [hf j hj]; exact now_len o1 (by omega)) hr (spot_lt p) b fun j hj => ?_
  rw [look_at he, rdS_in (by omega) (by rw [DevD.spoil_lost']; exact hl), hf j hj]
  by_cases c : j = r
  · subst c
    rw [if_pos rfl]
    have := spK_same (p := p) hso
    rwa [Int.toNat_natCast] at this
  · rw [if_neg c]
    exact spK_other (by rw [Int.toNat_natCast]; omega)
theorem slot_spoil_other {b2 : Nat} (hd : ds[e]? = some d) (he : es[e]? = some (d.spoil a p b)) (ha : ∀ j, j < 4 → b2 + j ≠ a.toNat) : slotL es e b2 4 = slotL ds e b2 4 := by
  unfold slotL
  congr 1
  refine List.map_congr_left fun j hj => ?_
  rw [look_at he, look_at hd]
  unfold DevD.rdS
  rw [spK_mayE, Int.toNat_natCast, spK_other (ha j (List.mem_range.1 hj))]
end
/-- The last one is still the best. -/
theorem best_spoilt {gs : List (Int × Int)} {sn N : Nat} {aw : List Bool} {ds : List DevD} {n k q : Nat} {b : UInt8} {last : UbD} (hv : BInv gs (sn : Int) aw ds n last) (ht : last.t ≠ 0) (hn : ds.length = n) (ok : DsOk N sn ds) (hs24 : 24 ≤ sn) (hk : k < n) (hh : hereD aw ds k = true) (hb : b ≠ 0) (m : Nat) (p : Int) :
    bestR gs (sn : Int) aw (spTo k ((last.t.toNat % 4 * 4 + q % 4 : Nat) : Int) p b ds m) n = (last, 0) := by
  rcases hv.hit with h | ⟨h1, _, h2, op, hr, hs⟩
  · exact absurd (by rw [h]; rfl) ht
  have hback := ur_back h2 op
  rw [hr, if_pos rfl] at hback
  have hlen := ubL_len (gs := gs) (secs := (sn : Int)) (t := last.t) (ubOk_parts h2).2.2.2 op
  refine best_is (d := k) (j := last.t.toNat % 4) (fun e he j hj => ?_) hk (Nat.mod_lt _ (by decide)) ?_ h1
  · cases hc : hereD aw ds e with
    | false => rw [uoD_out (by rw [spTo_hereD]; exact hc)]; exact upTo_out (by decide)
    | true =>
      rw [uoD_in (by rw [spTo_hereD]; exact hc)]
      have hup := hv.up e he j hj
      rw [uoD_in hc] at hup
      have hat := spTo_at (k := k) (a := ((last.t.toNat % 4 * 4 + q % 4 : Nat) : Int)) (p := p) (b := b) (ds := ds) e m
      by_cases c : e < m ∧ e ≠ k
      · rw [if_pos c] at hat
        obtain ⟨d, hd⟩ : ∃ d, ds[e]? = some d := ⟨_, List.getElem?_eq_getElem (by omega)⟩
        rw [hd] at hat
        have hl : d.lost = false := by
          unfold hereD at hc
          rw [hd] at hc
          simp only [Bool.and_eq_true, Bool.not_eq_true'] at hc
          exact hc.2
        by_cases cj : j = last.t.toNat % 4
        · subst cj
          have hr4 : q % 4 < 4 := Nat.mod_lt _ (by decide)
          have hsp := spot_lt p
          rw [slot_spoil ok hd hat rfl hr4 (by omega) hl hb, hs e he hc]
          have hi : q % 4 * 64 + DevD.spot p < 256 := by omega
          have hx : (ubL gs (sn : Int) last.t last.n last.p)[q % 4 * 64 + DevD.spot p]? = some ((ubL gs (sn : Int) last.t last.n last.p).getD (q % 4 * 64 + DevD.spot p) 0) := by
            rw [List.getD_eq_getElem?_getD, List.getElem?_eq_getElem (by omega)]
            rfl
          rw [ur_spoil h2 op hi hx, if_neg hb]
          exact upTo_out (by decide)
        · rw [slot_spoil_other hd hat (fun i hi => by rw [Int.toNat_natCast]; omega)]
          exact hup
      · rw [if_neg c] at hat
        rw [slotL_congr hat]
        exact hup
  · have hat := spTo_at (k := k) (a := ((last.t.toNat % 4 * 4 + q % 4 : Nat) : Int)) (p := p) (b := b) (ds := ds) k m
    rw [if_neg (fun h => h.2 rfl)] at hat
    rw [uoD_in (by rw [spTo_hereD]; exact hh), slotL_congr hat, hs k hk hh, hback]
end Go.Proofs.YtlpbbjjibnbooaaGreatDoor
