/-
  All columns of one place are spoilt: plain law of HealTwo.
  All columns of one of two places are spoilt: plain law.
-/
import Derived.Test.YtbhkbcpljakmjaaGreatJ34
namespace Go.Proofs.YtbhkbcpljakmjaaGreat
set_option linter.unusedVariables false
set_option linter.unusedSimpArgs false
open Go.RowKit

/-- The columns of a place, each spoilt. -/
def spoilTo (L : List Col) (b : UInt8) (ds : List DevD) (k : Nat) : List DevD := (List.range k).foldl (fun ds i => spoilAt ds (L.getD i (0, 0, false, 0)).1.toNat (L.getD i (0, 0, false, 0)).2.1 i b) ds
theorem spoilTo_snoc (L : List Col) (b : UInt8) (ds : List DevD) (k : Nat) : spoilTo L b ds (k + 1) = spoilAt (spoilTo L b ds k) (L.getD k (0, 0, false, 0)).1.toNat (L.getD k (0, 0, false, 0)).2.1 k b := by
  unfold spoilTo
  rw [List.range_succ, List.foldl_append]
  rfl
theorem spoilTo_len (L : List Col) (b : UInt8) (ds : List DevD) : ∀ k, (spoilTo L b ds k).length = ds.length
  | 0 => rfl
  | k + 1 => by rw [spoilTo_snoc, spoilAt_len, spoilTo_len L b ds k]
theorem spoilTo_ok {N secs : Nat} (L : List Col) (b : UInt8) {ds : List DevD} (h : DsOk N secs ds) : ∀ k, DsOk N secs (spoilTo L b ds k)
  | 0 => h
  | k + 1 => by rw [spoilTo_snoc]; exact spoilAt_ok (spoilTo_ok L b h k) _ _ _ _
theorem spoilTo_hereD {aw : List Bool} (L : List Col) (b : UInt8) (ds : List DevD) (j : Nat) : ∀ k, hereD aw (spoilTo L b ds k) j = hereD aw ds j
  | 0 => rfl
  | k + 1 => by rw [spoilTo_snoc, spoilAt_hereD, spoilTo_hereD L b ds j k]
theorem spoil_mayE (d : DevD) (a p e : Int) (b : UInt8) : (d.spoil a p b).mayE e = d.mayE e := by
  unfold DevD.mayE
  rw [DevD.spoil_lost', DevD.spoil_medlen]
theorem spoil_now_same {d : DevD} {a p : Int} {b : UInt8} (h : d.spoilOk a b = true) : (d.spoil a p b).now a.toNat = DevD.flip (d.now a.toNat) (DevD.spot p) b := by
  have hm : d.mayE a = 0 := by simp only [DevD.spoilOk, Bool.and_eq_true, decide_eq_true_eq] at h; exact h.1
  have hk := (DevD.mayE_ok hm)
  unfold DevD.spoil
  rw [if_pos h]
  generalize DevD.flip (d.now a.toNat) (DevD.spot p) b = s
  unfold DevD.spoiled
  split
  · rename_i he
    unfold DevD.now
    show lastOr (d.cac a.toNat) ((d.med.set a.toNat s).getD a.toNat []) = s
    rw [List.isEmpty_iff.1 he, List.getD_eq_getElem?_getD, List.getElem?_set, if_pos rfl, if_pos (by omega)]
    rfl
  · rename_i he
    unfold DevD.now lastOr
    show ((if a.toNat = a.toNat then (d.cac a.toNat).set ((d.cac a.toNat).length - 1) s else d.cac a.toNat).getLast?).getD _ = s
    rw [if_pos rfl, List.getLast?_eq_getElem?, List.length_set, List.getElem?_set, if_pos rfl, if_pos (by
      have : 0 < (d.cac a.toNat).length := List.length_pos_iff.2 (fun h => he (by rw [h]; rfl))
      omega)]
    rfl
theorem spoil_now_other {d : DevD} {a p : Int} {b : UInt8} {k : Nat} (h : k ≠ a.toNat) : (d.spoil a p b).now k = d.now k := by
  unfold DevD.spoil
  split
  · unfold DevD.spoiled
    split
    · unfold DevD.now DevD.medAt
      show lastOr (d.cac k) ((d.med.set a.toNat _).getD k []) = _
      rw [List.getD_eq_getElem?_getD, List.getElem?_set, if_neg (fun e => h e.symm), ← List.getD_eq_getElem?_getD]
    · unfold DevD.now DevD.medAt
      show lastOr (if k = a.toNat then _ else d.cac k) _ = _
      rw [if_neg h]
  · rfl
/-- A spoilt column: what any column reads as. -/
theorem spoil_look {ds : List DevD} {N secs : Nat} (ok : DsOk N secs ds) {c e : Col} {p : Int} {b : UInt8} (hb : b ≠ 0) {aw : List Bool} (hh : hereD aw ds c.1.toNat = true) (h1 : 0 ≤ c.1) (h3 : 0 ≤ c.2.1) (h4 : c.2.1 < secs) (e1 : 0 ≤ e.1) (e3 : 0 ≤ e.2.1) :
    look (spoilAt ds c.1.toNat c.2.1 p b) e = if decide (e.1 = c.1) && decide (e.2.1 = c.2.1) then DevD.flip (look ds e) (DevD.spot p) b else look ds e := by
  obtain ⟨d, hd⟩ : ∃ d, ds[c.1.toNat]? = some d := by
    unfold hereD at hh
    cases h : ds[c.1.toNat]? with
    | none => rw [h] at hh; simp at hh
    | some d => exact ⟨d, rfl⟩
  have hlo : d.lost = false := by
    unfold hereD at hh
    rw [hd] at hh
    simp only [Bool.and_eq_true, Bool.not_eq_true'] at hh
    exact hh.2
  have hm : d.mayE c.2.1 = 0 := by
    unfold DevD.mayE
    rw [hlo]
    simp only [Bool.false_eq_true, if_false]
    rw [if_neg (by have := (ok d (List.mem_of_getElem? hd)).2.1; omega)]
  have hso : d.spoilOk c.2.1 b = true := by
    unfold DevD.spoilOk
    rw [hm]
    simp [hb]
  have hlt : c.1.toNat < ds.length := (List.getElem?_eq_some_iff.1 hd).1
  unfold spoilAt look
  rw [hd]
  simp only
  rw [List.getElem?_set]
  by_cases hdv : e.1 = c.1
  · rw [hdv, if_pos rfl, if_pos hlt, hd, decide_eq_true rfl, Bool.true_and]
    by_cases hat : e.2.1 = c.2.1
    · rw [hat, decide_eq_true rfl, if_pos rfl]
      show (d.spoil c.2.1 p b).rdS c.2.1 = DevD.flip (d.rdS c.2.1) _ _
      unfold DevD.rdS
      rw [spoil_mayE, if_pos hm, if_pos hm, spoil_now_same hso]
    · rw [decide_eq_false hat, if_neg Bool.false_ne_true]
      show (d.spoil c.2.1 p b).rdS e.2.1 = d.rdS e.2.1
      unfold DevD.rdS
      rw [spoil_mayE]
      split
      · rw [spoil_now_other (by omega)]
      · rfl
  · rw [decide_eq_false hdv, Bool.false_and, if_neg Bool.false_ne_true, if_neg (by omega)]
theorem spot64 (p : Int) : DevD.spot p < 64 := by
  unfold DevD.spot
  have h1 := Int.tmod_lt_of_pos (p.tmod 64 + 64) (show (0 : Int) < 64 by decide)
  omega
theorem flip_ne {s : List UInt8} {i : Nat} {b : UInt8} (hi : i < s.length) (hb : b ≠ 0) : DevD.flip s i b ≠ s := by
  intro h
  have h1 := congrArg (fun l => l[i]?) h
  simp only [DevD.flip] at h1
  rw [List.getElem?_set, if_pos rfl, if_pos hi, List.getD_eq_getElem?_getD, List.getElem?_eq_getElem hi] at h1
  simp only [Option.getD_some, Option.some.injEq] at h1
  have : s[i] ^^^ b ^^^ s[i] = s[i] ^^^ s[i] := by rw [h1]
  rw [UInt8.xor_self, UInt8.xor_comm, ← UInt8.xor_assoc, UInt8.xor_self, UInt8.zero_xor] at this
  exact hb this
section
variable {gs : List (Int × Int)} {secs n N : Nat} {aw : List Bool} {ds : List DevD} {q : PtrD} {s : List UInt8} {b : UInt8}
/-- What is apart stays. -/
theorem spoilTo_other {L : List Col} {T : List (List UInt8)} {e : Col} (hb : b ≠ 0) (hc : Cols n secs L T) (ok : DsOk N secs ds) (hh : AllHere aw ds n) (e1 : 0 ≤ e.1) (e3 : 0 ≤ e.2.1) : ∀ k, k ≤ L.length → (∀ i, i < k → ¬ (e.1 = (L.getD i (0, 0, false, 0)).1 ∧ e.2.1 = (L.getD i (0, 0, false, 0)).2.1)) → look (spoilTo L b ds k) e = look ds e
  | 0, _, _ => rfl
  | k + 1, hk, hne => by
    obtain ⟨c1, c2, c3, c4⟩ := hc.inn k _ (colD_in (show k < L.length by omega))
    rw [spoilTo_snoc, spoil_look (aw := aw) (spoilTo_ok L b ok k) hb (by rw [spoilTo_hereD]; exact hh _ (by omega)) c1 c3 c4 e1 e3]
    have := hne k (Nat.lt_succ_self k)
    rw [if_neg (by
      intro h
      simp only [Bool.and_eq_true, decide_eq_true_eq] at h
      exact this h)]
    exact spoilTo_other hb hc ok hh e1 e3 k (by omega) (fun i hi => hne i (by omega))
theorem spoilTo_own {L : List Col} {T : List (List UInt8)} (hb : b ≠ 0) (hc : Cols n secs L T) (ok : DsOk N secs ds) (hh : AllHere aw ds n) {j : Nat} (hj : j < L.length) : ∀ k, k ≤ L.length → look (spoilTo L b ds k) (L.getD j (0, 0, false, 0)) = if j < k then DevD.flip (look ds (L.getD j (0, 0, false, 0))) (DevD.spot j) b else look ds (L.getD j (0, 0, false, 0))
  | 0, _ => by rw [if_neg (by omega)]; rfl
  | k + 1, hk => by
    obtain ⟨c1, c2, c3, c4⟩ := hc.inn k _ (colD_in (show k < L.length by omega))
    obtain ⟨d1, d2, d3, d4⟩ := hc.inn j _ (colD_in hj)
    rw [spoilTo_snoc, spoil_look (aw := aw) (spoilTo_ok L b ok k) hb (by rw [spoilTo_hereD]; exact hh _ (by omega)) c1 c3 c4 d1 d3, spoilTo_own hb hc ok hh hj k (by omega)]
    by_cases hjk : j = k
    · subst hjk
      rw [decide_eq_true rfl, decide_eq_true rfl, if_neg (Nat.lt_irrefl j), if_pos (Nat.lt_succ_self j)]
      rfl
    · have hd := hc.dis j k _ _ hjk (colD_in hj) (colD_in (show k < L.length by omega))
      rw [if_neg (by
        intro h
        simp only [Bool.and_eq_true, decide_eq_true_eq] at h
        exact hd h)]
      by_cases h : j < k
      · rw [if_pos h, if_pos (by omega)]
      · rw [if_neg h, if_neg (by omega)]
/-- One place spoilt, the other one as it was. -/
theorem spoilt_raw {pl : PlX} (hb : b ≠ 0) (hr : gRight gs secs = true) (hn : gSum gs = n) (ok : DsOk N secs ds) (hh : AllHere aw ds n) (hE : encE gs secs pl.1 pl.2 s = 0) (hf : rawP gs secs (secN s) aw ds pl = encL gs secs pl.1 pl.2 s) :
    ∀ i, i < (colsOf gs secs pl.1 pl.2 (secN s)).length → (rawP gs secs (secN s) aw (spoilTo (colsOf gs secs pl.1 pl.2 (secN s)) b ds (colsOf gs secs pl.1 pl.2 (secN s)).length) pl).getD i [] ≠ (encL gs secs pl.1 pl.2 s).getD i [] := by
  intro i hi
  obtain ⟨e1, e2, e3⟩ := encE_zero hE
  have hc := cols_of hr hn hE
  rw [ofList_may e2] at hc
  obtain ⟨c1, c2, c3, c4⟩ := hc.inn i _ (colD_in hi)
  have h1 := raw_get (aw := aw) (ds := spoilTo (colsOf gs secs pl.1 pl.2 (secN s)) b ds (colsOf gs secs pl.1 pl.2 (secN s)).length) e2 hi
  have h2 := raw_get (aw := aw) (ds := ds) e2 hi
  have hhi := hh ((colsOf gs secs pl.1 pl.2 (secN s)).getD i (0, 0, false, 0)).1.toNat (by omega)
  unfold rawP at hf ⊢
  rw [hf] at h2
  rw [h1, rdC_look, spoilTo_hereD, hhi, if_pos rfl, spoilTo_own (aw := aw) hb hc ok hh hi _ (Nat.le_refl _), if_pos hi]
  rw [rdC_look, hhi, if_pos rfl] at h2
  rw [← h2]
  refine flip_ne ?_ hb
  rw [(enc_encL e2).all64 i hi]
  exact spot64 _
theorem spoilt_other {pl ql : PlX} {size : Int} (hb : b ≠ 0) (hr : gRight gs secs = true) (hn : gSum gs = n) (ok : DsOk N secs ds) (hh : AllHere aw ds n) (hE : encE gs secs pl.1 pl.2 s = 0) (hq : cMay gs secs ql.1 ql.2 size = true)
    (hap : ∀ i k : Nat, ∀ x y : Col, (colsOf gs secs pl.1 pl.2 (secN s))[i]? = some x → (colsOf gs secs ql.1 ql.2 size)[k]? = some y → ¬ (x.1 = y.1 ∧ x.2.1 = y.2.1)) :
    rawP gs secs size aw (spoilTo (colsOf gs secs pl.1 pl.2 (secN s)) b ds (colsOf gs secs pl.1 pl.2 (secN s)).length) ql = rawP gs secs size aw ds ql := by
  obtain ⟨e1, e2, e3⟩ := encE_zero hE
  have hc := cols_of hr hn hE
  rw [ofList_may e2] at hc
  unfold rawP rawL
  rw [ofList_may hq]
  refine List.map_congr_left fun c hcm => ?_
  obtain ⟨k, hk⟩ := List.mem_iff_getElem?.1 hcm
  rw [rdC_look, rdC_look, spoilTo_hereD]
  split
  · have h1 := (apart_pure hq hq).1 k c hk
    rw [spoilTo_other (aw := aw) hb hc ok hh h1.1 (by have := h1.2.2.1; omega) _ (Nat.le_refl _) (fun i hi h => hap i k _ _ (colD_in hi) hk ⟨h.1.symm, h.2.symm⟩)]
  · rfl
end
end Go.Proofs.YtbhkbcpljakmjaaGreat

namespace Go.Proofs.YtbhkbcpljakmjaaGreat
set_option linter.unusedVariables false
set_option linter.unusedSimpArgs false
open Go.RowKit

section
variable {gs : List (Int × Int)} {secs n N : Nat} {aw : List Bool} {ds : List DevD} {q : PtrD} {s : List UInt8} {b : UInt8}
theorem mendN_all {hs : Nat → Bool} {L : List Col} {l : List Nat} (h : ∀ i ∈ l, hs (L.getD i (0, 0, false, 0)).1.toNat = true) : mendN hs L l = l.length := by
  unfold mendN
  rw [List.filter_eq_self.2 h]
theorem all_bad {pl : PlX} (hr : gRight gs secs = true) (hn : gSum gs = n) (ok : DsOk N secs ds) (hh : AllHere aw ds n) (hE : encE gs secs pl.1 pl.2 s = 0)
    (h : ∀ i, i < (colsOf gs secs pl.1 pl.2 (secN s)).length → (rawP gs secs (secN s) aw ds pl).getD i [] ≠ (encL gs secs pl.1 pl.2 s).getD i []) : mendB gs secs aw s ds pl = (colsOf gs secs pl.1 pl.2 (secN s)).length := by
  obtain ⟨e1, e2, e3⟩ := encE_zero hE
  have hc := cols_of hr hn hE
  have hfit := raw_fits (aw := aw) e2 ok
  have hTl : (encL gs secs pl.1 pl.2 s).length = (colsOf gs secs pl.1 pl.2 (secN s)).length := (enc_encL e2).len
  have hbl : badL gs secs pl.1 pl.2 s (rawP gs secs (secN s) aw ds pl) = List.range (colsOf gs secs pl.1 pl.2 (secN s)).length := by
    unfold badL
    rw [hE, hfit]
    simp only [decide_true, Bool.true_and, if_true]
    rw [hTl, List.filter_eq_self]
    intro i hi
    rw [bne_iff_ne]
    exact fun e => h i (List.mem_range.1 hi) e.symm
  unfold mendB
  rw [hbl, ofList_may e2]
  rw [ofList_may e2] at hc
  rw [mendN_all, List.length_range]
  intro i hi
  obtain ⟨c1, c2, _, _⟩ := hc.inn i _ (colD_in (List.mem_range.1 hi))
  exact hh _ (by omega)
theorem two_law (hq : rightB gs secs q = true) (hr : gRight gs secs = true) (hn : gSum gs = n) (hl : ds.length = n) (ok : DsOk N secs ds) (hh : AllHere aw ds n) (e1 : (secN s : Int) = q.size) (e2 : secOk s = true) (hsum : fsum s = q.sum) (hf : Full gs secs aw q s ds) (hb : b ≠ 0)
    {pl : PlX} (hpl : pl ∈ plsL q) (h2 : (plsL q).length = 2) {D : List DevD} (hD : D = spoilTo (colsOf gs secs pl.1 pl.2 q.size) b ds (colsOf gs secs pl.1 pl.2 q.size).length) :
    ∃ c, lookV gs secs q (rawP gs secs q.size aw D) = (c, 0) ∧ (c.text = s → readN true gs secs aw q D = (colsOf gs secs pl.1 pl.2 q.size).length ∧ Full gs secs aw q s (readD true gs secs aw q D)) := by
  rcases pls_cases hq with ⟨pa, hp, _⟩ | ⟨pa, pb, hp, hA, hB, hap⟩
  · rw [hp] at h2
    cases h2
  have hm : cMay gs secs pl.1 pl.2 q.size = true := pls_may hq pl hpl
  rw [← e1] at hA hB hap hm hD ⊢
  have eA := enc_pl e2 hA
  have eB := enc_pl e2 hB
  have eP := enc_pl e2 hm
  have hfull : ∀ p ∈ plsL q, rawP gs secs (secN s) aw ds p = encL gs secs p.1 p.2 s := fun p hp => by have := hf p hp; rwa [← e1] at this
  have okD : DsOk N secs D := by rw [hD]; exact spoilTo_ok _ _ ok _
  have hlD : D.length = n := by rw [hD, spoilTo_len]; exact hl
  have hhD : AllHere aw D n := fun i hi => by rw [hD, spoilTo_hereD]; exact hh i hi
  have hraw := spoilt_raw hb hr hn ok hh eP (hfull pl hpl)
  rw [← hD] at hraw
  have hbad := all_bad hr hn okD hhD eP hraw
  have hpa : pa ∈ plsL q := by rw [hp]; exact List.mem_cons_self
  have hpb : pb ∈ plsL q := by rw [hp]; exact List.mem_cons_of_mem _ List.mem_cons_self
  have key : ∃ c, lookV gs secs q (rawP gs secs (secN s) aw D) = (c, 0) := by
    unfold lookV
    rw [if_pos hq, hp]
    rw [hp] at hpl
    simp only [List.mem_cons, List.not_mem_nil, or_false] at hpl
    rcases hpl with rfl | rfl
    · have ho := spoilt_other (aw := aw) (ql := pb) hb hr hn ok hh eA hB hap
      rw [← hD] at ho
      unfold lookFrom
      split
      · exact ⟨_, rfl⟩
      · obtain ⟨x, hx, _⟩ := full_try (q := q) hr hn e1 e2 hsum (by rw [← e1]; exact hB) (ho.trans (hfull pb hpb))
        unfold lookFrom
        rw [hx]
        exact ⟨_, rfl⟩
    · have ho := spoilt_other (aw := aw) (ql := pa) hb hr hn ok hh eB hA (fun i k x y hx hy ⟨a, b⟩ => hap k i y x hy hx ⟨a.symm, b.symm⟩)
      rw [← hD] at ho
      obtain ⟨x, hx, _⟩ := full_try (q := q) hr hn e1 e2 hsum (by rw [← e1]; exact hA) (ho.trans (hfull pa hpa))
      unfold lookFrom
      rw [hx]
      exact ⟨_, rfl⟩
  obtain ⟨c, hc⟩ := key
  refine ⟨c, hc, fun hct => ?_⟩
  have hcq : lookV gs secs q (rawP gs secs q.size aw D) = (c, 0) := by rw [← e1]; exact hc
  have hrn : readN true gs secs aw q D = mendC gs secs aw s (plsL q) D := by
    unfold readN
    rw [hcq]
    simp only [if_true]
    rw [hct]
    unfold placesTo
    rw [if_pos rfl, List.take_length]
  have hrd : readD true gs secs aw q D = mendAll gs secs aw s (plsL q) D := by
    unfold readD
    rw [hcq]
    simp only [if_true]
    rw [hct]
    unfold placesTo
    rw [if_pos rfl, List.take_length]
  rw [hrn, hrd]
  refine ⟨?_, full_mended hq hr hn hlD okD hhD e1 e2⟩
  rw [hp]
  rw [hp] at hpl
  simp only [List.mem_cons, List.not_mem_nil, or_false] at hpl
  show mendB gs secs aw s D pa + (mendB gs secs aw s (mendAt gs secs aw s D pa) pb + 0) = _
  rcases hpl with rfl | rfl
  · have ho := spoilt_other (aw := aw) (ql := pb) hb hr hn ok hh eA hB hap
    rw [← hD] at ho
    have hm2 := raw_other (aw := aw) (ql := pb) (size := (secN s : Int)) hr hn hlD okD eA hB hap
    have h0 := full_mend (q := q) (ds := mendAt gs secs aw s D pl) (aw := aw) (pl := pb) e1 (by rw [← e1]; exact hm2.trans (ho.trans (hfull pb hpb)))
    rw [hbad, h0.2]
    rfl
  · have ho := spoilt_other (aw := aw) (ql := pa) hb hr hn ok hh eB hA (fun i k x y hx hy ⟨a, b⟩ => hap k i y x hy hx ⟨a.symm, b.symm⟩)
    rw [← hD] at ho
    have h0 := full_mend (q := q) (ds := D) (aw := aw) (pl := pa) e1 (by rw [← e1]; exact ho.trans (hfull pa hpa))
    rw [h0.1, h0.2, hbad, Nat.zero_add, Nat.add_zero]
/-- What laid leaves where none is away or lost. -/
theorem laid_full {y : Nat} (hq : rightB gs secs q = true) (hr : gRight gs secs = true) (hn : gSum gs = y) (hs1 : 24 ≤ secs) (hs2 : secs ≤ 200) (e1 : (secN s : Int) = q.size) (e2 : secOk s = true) {ds : List DevD}
    (hds : loT [] (wrAll gs secs (awT [] y 0) s (plsL q) (List.replicate y (DevD.blank secs 0))) y = ds) : Full gs secs (awT [] y y) q s ds ∧ AllHere (awT [] y y) ds y ∧ DsOk 128 secs ds := by
  have hlo : ∀ (D : List DevD) (k : Nat), loT [] D k = D := fun D k => by
    apply List.ext_getElem?
    intro i
    cases h : D[i]? with
    | none => rw [List.getElem?_eq_none_iff] at h; rw [List.getElem?_eq_none (by rw [loT_len]; exact h)]
    | some d => rw [loT_at h]; simp [bAt]
  rw [hlo] at hds
  rw [awT_none (al := [])]
  have hok := blanks_ok (n := y) (secs := secs) (b := 0) (by omega) (by omega)
  have hh : AllHere (awT [] y 0) (List.replicate y (DevD.blank secs 0)) y := fun i hi => by
    unfold hereD
    rw [List.getD_eq_getElem?_getD, awT_at hi, List.getElem?_replicate, if_pos hi]
    simp [DevD.blank]
  subst hds
  refine ⟨full_written hq hr hn (by simp) hok hh e1 e2, fun i hi => by rw [wrAll_hereD]; exact hh i hi, (wrAll_ok _ _ hok).mono (by have := plsL_len q; omega)⟩
end
end Go.Proofs.YtbhkbcpljakmjaaGreat
