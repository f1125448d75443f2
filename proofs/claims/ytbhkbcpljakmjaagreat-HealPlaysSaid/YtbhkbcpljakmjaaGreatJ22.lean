/-
  Blocks read by their sums, and mended: plain words.
  What is mended is read again: plain laws of heal.
  What is read behind a mending: plain laws of heal.
  A block that was read, and mended, is read again: plain law.
-/
import Derived.Test.YtbhkbcpljakmjaaGreatJ19
import Derived.Test.YtbhkbcpljakmjaaGreatJ16
import Derived.Test.YtbhkbcpljakmjaaGreatJ21
namespace Go.Proofs.YtbhkbcpljakmjaaGreat
set_option linter.unusedVariables false
set_option linter.unusedSimpArgs false
open Go.RowKit
def PtrD.sum (p : PtrD) : Nat × Nat × Nat × Nat := (p.s0, p.s1, p.s2, p.s3)
def plsL (p : PtrD) : List (Int × Int) := if noneB p then [] else if p.two then [(p.ag, p.aa), (p.bg, p.ba)] else [(p.ag, p.aa)]
theorem plsL_right {gs : List (Int × Int)} {secs : Int} {p : PtrD} (h : rightB gs secs p = true) : plsL p = if p.two then [(p.ag, p.aa), (p.bg, p.ba)] else [(p.ag, p.aa)] := by
 unfold plsL
 rw [(right_pure h).1]
 rfl
theorem plsL_len (p : PtrD) : (plsL p).length ≤ 2 := by
 unfold plsL
 split
 · simp
 · split <;> simp
theorem pls_may {gs : List (Int × Int)} {secs : Int} {p : PtrD} (h : rightB gs secs p = true) : ∀ pl ∈ plsL p, cMay gs secs pl.1 pl.2 p.size = true := by
 intro pl hpl
 rw [plsL_right h] at hpl
 simp only [rightB, Bool.and_eq_true] at h
 cases ht : p.two with
 | true =>
  rw [ht, if_pos rfl] at hpl h
  simp only [Bool.and_eq_true] at h
  simp only [List.mem_cons, List.not_mem_nil, or_false] at hpl
  rcases hpl with rfl | rfl
  · exact h.1.2
  · exact h.2.1
 | false =>
  rw [ht] at hpl
  simp at hpl
  subst hpl
  exact h.1.2
def tryAt (gs : List (Int × Int)) (secs : Int) (q : PtrD) (raw : List (List UInt8)) (pl : Int × Int) : Option TryX := (triesL gs secs pl.1 pl.2 q.size raw).find? fun x => fsum x.2 == q.sum
structure CameD where
 text : List UInt8
 place : Nat
 dev : Int
 fixed : Nat
def came0 : CameD := ⟨[], 0, 0, 0⟩
abbrev CameD.cells (c : CameD) : Array Value := #[str c.text, .int .i64 c.place, .int .i64 c.dev, .int .i64 c.fixed]
def lookFrom (gs : List (Int × Int)) (secs : Int) (q : PtrD) (R : Int × Int → List (List UInt8)) : List (Int × Int) → Nat → Bool → CameD × Int
 | [], _, all => (came0, if all then 4 else 6)
 | pl :: r, i, all => match tryAt gs secs q (R pl) pl with
   | some x => (⟨x.2, i, x.1, 0⟩, 0)
   | none => lookFrom gs secs q R r (i + 1) (all && !hasE (R pl))
def lookV (gs : List (Int × Int)) (secs : Int) (q : PtrD) (R : Int × Int → List (List UInt8)) : CameD × Int := if rightB gs secs q then lookFrom gs secs q R (plsL q) 0 true else (came0, 1)
def mendTo (aw : List Bool) (L : List Col) (T : List (List UInt8)) (ds : List DevD) (l : List Nat) : List DevD := l.foldl (fun ds i => putD aw ds (L.getD i (0, 0, false, 0)) (T.getD i [])) ds
def mendN (hs : Nat → Bool) (L : List Col) (l : List Nat) : Nat := (l.filter fun i => hs (L.getD i (0, 0, false, 0)).1.toNat).length
theorem mendTo_snoc (aw : List Bool) (L : List Col) (T : List (List UInt8)) (ds : List DevD) (l : List Nat) (i : Nat) : mendTo aw L T ds (l ++ [i]) = putD aw (mendTo aw L T ds l) (L.getD i (0, 0, false, 0)) (T.getD i []) := by
 unfold mendTo
 rw [List.foldl_append]
 rfl
theorem mendN_snoc (hs : Nat → Bool) (L : List Col) (l : List Nat) (i : Nat) : mendN hs L (l ++ [i]) = mendN hs L l + if hs (L.getD i (0, 0, false, 0)).1.toNat then 1 else 0 := by
 unfold mendN
 rw [List.filter_append, List.length_append, List.filter_cons]
 split <;> rfl
theorem mendN_le (hs : Nat → Bool) (L : List Col) (l : List Nat) : mendN hs L l ≤ l.length := List.length_filter_le _ _
theorem putD_hereD {aw : List Bool} {ds : List DevD} {c : Col} {t : List UInt8} (i : Nat) : hereD aw (putD aw ds c t) i = hereD aw ds i := by
 have h := putD_lost (aw := aw) (ds := ds) (c := c) (t := t) i
 unfold hereD
 cases h1 : (putD aw ds c t)[i]? with
 | none =>
  rw [h1] at h
  cases h2 : ds[i]? with
  | none => rfl
  | some d => rw [h2] at h; cases h
 | some e =>
  rw [h1] at h
  cases h2 : ds[i]? with
  | none => rw [h2] at h; cases h
  | some d =>
   rw [h2] at h
   simp at h
   simp only [h]
theorem mendTo_hereD {aw : List Bool} {L : List Col} {T : List (List UInt8)} (i : Nat) : ∀ (l : List Nat) (ds : List DevD), hereD aw (mendTo aw L T ds l) i = hereD aw ds i
 | [], _ => rfl
 | j :: l, ds => by
   show hereD aw (mendTo aw L T (putD aw ds _ _) l) i = _
   rw [mendTo_hereD i l, putD_hereD]
theorem mendTo_len {aw : List Bool} {L : List Col} {T : List (List UInt8)} : ∀ (l : List Nat) (ds : List DevD), (mendTo aw L T ds l).length = ds.length
 | [], _ => rfl
 | j :: l, ds => by
   show (mendTo aw L T (putD aw ds _ _) l).length = _
   rw [mendTo_len l, putD_len]
theorem mendTo_ok {aw : List Bool} {L : List Col} {T : List (List UInt8)} {secs : Nat} : ∀ (l : List Nat) (ds : List DevD) {N : Nat}, DsOk N secs ds → DsOk (N + l.length) secs (mendTo aw L T ds l)
 | [], _, _, h => h
 | j :: l, ds, N, h => by
   have := mendTo_ok l (putD aw ds (L.getD j (0, 0, false, 0)) (T.getD j [])) (aw := aw) (L := L) (T := T) (putD_ok h)
   rw [List.length_cons, show N + (l.length + 1) = N + 1 + l.length by omega]
   exact this
theorem putD_look {aw : List Bool} {ds : List DevD} {N secs : Nat} (ok : DsOk N secs ds) {c e : Col} {t : List UInt8} (h1 : 0 ≤ c.1) (h2 : c.1 < ds.length) (h3 : 0 ≤ c.2.1) (h4 : c.2.1 < secs) (ht : t.length = 64) (e1 : 0 ≤ e.1) :
 look (putD aw ds c t) e = if (decide (e.1 = c.1) && decide (e.2.1 = c.2.1)) && hereD aw ds c.1.toNat then t else look ds e := by
 obtain ⟨d, hd⟩ : ∃ d, ds[c.1.toNat]? = some d := ⟨_, List.getElem?_eq_getElem (by omega)⟩
 have hh : hereD aw ds c.1.toNat = (!(aw.getD c.1.toNat false) && !d.lost) := by unfold hereD; rw [hd]
 rw [hh]
 unfold putD
 rw [hd]
 simp only
 cases hq : (!(aw.getD c.1.toNat false) && !d.lost) with
 | false => simp
 | true =>
  simp only [if_true, Bool.and_true]
  have hdl : d.lost = false := by simp only [Bool.and_eq_true, Bool.not_eq_true'] at hq; exact hq.2
  have hw := wrE_all ok (List.mem_of_getElem? hd) hdl h3 h4 ht
  have hlt : c.1.toNat < ds.length := (List.getElem?_eq_some_iff.1 hd).1
  unfold look
  rw [List.getElem?_set]
  by_cases hdv : e.1 = c.1
  · rw [hdv, if_pos rfl, if_pos hlt, hd]
    by_cases hat : e.2.1 = c.2.1
    · rw [hat, decide_eq_true rfl, decide_eq_true rfl]
      exact wr_rd_same hw
    · rw [decide_eq_false hat, Bool.and_false, if_neg Bool.false_ne_true]
      exact wr_rd_other h3 (fun h => hat h.symm)
  · rw [decide_eq_false hdv, Bool.false_and, if_neg Bool.false_ne_true, if_neg (by omega)]
theorem mendTo_other {aw : List Bool} {L : List Col} {T : List (List UInt8)} {secs : Nat} {e : Col} (e1 : 0 ≤ e.1) : ∀ (l : List Nat) (ds : List DevD) {N : Nat}, DsOk N secs ds → Cols ds.length secs L T → (∀ i ∈ l, i < L.length) →
 (∀ i ∈ l, ¬ (e.1 = (L.getD i (0, 0, false, 0)).1 ∧ e.2.1 = (L.getD i (0, 0, false, 0)).2.1)) → look (mendTo aw L T ds l) e = look ds e
 | [], _, _, _, _, _, _ => rfl
 | j :: l, ds, N, ok, hc, hl, hne => by
   have hj := hl j List.mem_cons_self
   obtain ⟨c1, c2, c3, c4⟩ := hc.inn j _ (colD_in hj)
   obtain ⟨t, ht, ht64⟩ := hc.txt j hj
   have hT : T.getD j [] = t := by rw [List.getD_eq_getElem?_getD, ht]; rfl
   show look (mendTo aw L T (putD aw ds _ _) l) e = _
   rw [mendTo_other e1 l _ (putD_ok ok) (by rw [putD_len]; exact hc) (fun i hi => hl i (List.mem_cons_of_mem _ hi)) (fun i hi => hne i (List.mem_cons_of_mem _ hi))]
   rw [putD_look ok c1 c2 c3 c4 (by rw [hT]; exact ht64) e1]
   have := hne j List.mem_cons_self
   rw [if_neg]
   intro h
   simp only [Bool.and_eq_true, decide_eq_true_eq] at h
   exact this h.1
theorem mendTo_own {aw : List Bool} {L : List Col} {T : List (List UInt8)} {secs : Nat} {j : Nat} (hjL : j < L.length) : ∀ (l : List Nat) (ds : List DevD) {N : Nat}, DsOk N secs ds → Cols ds.length secs L T → (∀ i ∈ l, i < L.length) →
 look (mendTo aw L T ds l) (L.getD j (0, 0, false, 0)) = if decide (j ∈ l) && hereD aw ds (L.getD j (0, 0, false, 0)).1.toNat then T.getD j [] else look ds (L.getD j (0, 0, false, 0))
 | [], _, _, _, _, _ => by simp [mendTo]
 | k :: l, ds, N, ok, hc, hl => by
   have hk := hl k List.mem_cons_self
   obtain ⟨c1, c2, c3, c4⟩ := hc.inn k _ (colD_in hk)
   obtain ⟨d1, d2, d3, d4⟩ := hc.inn j _ (colD_in hjL)
   obtain ⟨t, ht, ht64⟩ := hc.txt k hk
   have hT : T.getD k [] = t := by rw [List.getD_eq_getElem?_getD, ht]; rfl
   show look (mendTo aw L T (putD aw ds _ _) l) _ = _
   rw [mendTo_own hjL l _ (putD_ok ok) (by rw [putD_len]; exact hc) (fun i hi => hl i (List.mem_cons_of_mem _ hi)), putD_hereD,
    putD_look ok c1 c2 c3 c4 (by rw [hT]; exact ht64) d1]
   by_cases hjk : j = k
   · subst hjk
     rw [decide_eq_true (show j ∈ j :: l from List.mem_cons_self), decide_eq_true rfl, decide_eq_true rfl]
     cases hereD aw ds (L.getD j (0, 0, false, 0)).1.toNat <;> simp
   · have hdis := hc.dis j k _ _ hjk (colD_in hjL) (colD_in hk)
     rw [show decide (j ∈ k :: l) = decide (j ∈ l) from decide_eq_decide.2 ⟨fun h => (List.mem_cons.1 h).resolve_left hjk, List.mem_cons_of_mem _⟩]
     rw [show (decide ((L.getD j (0, 0, false, 0)).1 = (L.getD k (0, 0, false, 0)).1) && decide ((L.getD j (0, 0, false, 0)).2.1 = (L.getD k (0, 0, false, 0)).2.1)) = false by
      rw [Bool.and_eq_false_iff, decide_eq_false_iff_not, decide_eq_false_iff_not]
      by_cases h : (L.getD j (0, 0, false, 0)).1 = (L.getD k (0, 0, false, 0)).1
      · exact .inr fun h2 => hdis ⟨h, h2⟩
      · exact .inl h]
     simp
end Go.Proofs.YtbhkbcpljakmjaaGreat

namespace Go.Proofs.YtbhkbcpljakmjaaGreat
set_option linter.unusedVariables false
set_option linter.unusedSimpArgs false
open Go.RowKit
theorem fits_full10 {gs : List (Int × Int)} {secs pg pa size : Int} {got : List (List UInt8)} (h : fitsB gs secs pg pa size got = true) : ∀ s ∈ got, s ≠ [] → s.length = 64 := fun s hs hne => by
 unfold fitsB at h
 simp only [Bool.and_eq_true, beq_iff_eq, Bool.not_eq_true', List.any_eq_false] at h
 have h4 := h.2 s hs
 unfold fitP at h4
 cases s with
 | nil => exact absurd rfl hne
 | cons x r =>
  simp only [List.isEmpty_cons, Bool.not_false, Bool.true_and, bne_iff_ne, ne_eq, Decidable.not_not] at h4
  omega
theorem hasE_cons10 {l : List (List UInt8)} (hne : l ≠ []) (h : hasE l = false) : l.flatten.isEmpty = false := by
 cases l with
 | nil => exact absurd rfl hne
 | cons a r =>
  unfold hasE at h
  rw [List.any_cons, Bool.or_eq_false_iff] at h
  cases a with
  | nil => exact absurd h.1 (by decide)
  | cons x y => rfl
theorem flat_64 {l : List (List UInt8)} (h : ∀ x ∈ l, x.length = 64) : l.flatten.length = l.length * 64 := by
 induction l with
 | nil => rfl
 | cons a r ih =>
  rw [List.flatten_cons, List.length_append, ih (fun x hx => h x (List.mem_cons_of_mem _ hx)), h a List.mem_cons_self, List.length_cons, Nat.add_mul]
  omega
theorem again_full {L : List Col} {got : List (List UInt8)} {sz i : Nat} (hL : ParL L sz) (hi : i < L.length) (h64 : ∀ j, got.getD j [] ≠ [] → (got.getD j []).length = 64)
 (h : ∀ j, j < L.length → (L.getD j (0, 0, false, 0)).2.2.2 = (L.getD i (0, 0, false, 0)).2.2.2 → j ≠ i → got.getD j [] ≠ []) : (againS L got i).length = 64 := by
 have hne := again_ne hL hi
 have hall : ∀ x ∈ (againIx L i L.length).map (fun j => got.getD j []), x.length = 64 := fun x hx => by
  obtain ⟨j, hj, rfl⟩ := List.mem_map.1 hx
  obtain ⟨h1, h2, h3⟩ := againIx_mem.1 hj
  exact h64 j (h j h1 h2 h3)
 have hE : hasE ((againIx L i L.length).map fun j => got.getD j []) = false := by
  unfold hasE
  rw [List.any_eq_false]
  intro x hx he
  have := hall x hx
  rw [List.isEmpty_iff.1 he] at this
  cases this
 unfold againS
 simp only
 rw [hE, if_neg Bool.false_ne_true]
 rw [makeS_64 (by simpa using hne) hall]
 exact parN_len hall
section
variable {gs : List (Int × Int)} {secs pg pa size : Int} {got got' : List (List UInt8)}
theorem fits_getD (h : fitsB gs secs pg pa size got = true) (j : Nat) : got.getD j [] ≠ [] → (got.getD j []).length = 64 := fun hne => by
 rw [List.getD_eq_getElem?_getD] at hne ⊢
 cases hg : got[j]? with
 | none => rw [hg] at hne; exact absurd rfl hne
 | some s =>
  rw [hg] at hne
  exact fits_full10 h s (List.mem_of_getElem? hg) hne
theorem kind_or (h : cMay gs secs pg pa size = true) : (grAt gs pg).1 = 0 ∨ (grAt gs pg).1 = 1 := by
 obtain ⟨hhas, _⟩ := cMay_true h
 obtain ⟨g, x, rfl, _, _, _, _, hx, hgx, ho⟩ := gHas_true hhas
 rw [hgx]
 rcases gOne_true ho with h | h
 · exact .inl h.1
 · exact .inr h.1
theorem tries_mir (h : fitsB gs secs pg pa size got = true) (hk : (grAt gs pg).1 = 0) : triesL gs secs pg pa size got = mirT (colsOf gs secs pg pa size) size.toNat got (grAt gs pg).2.toNat := by
 unfold triesL
 rw [if_pos h, hk]
 rfl
theorem tries_par (h : fitsB gs secs pg pa size got = true) (hk : (grAt gs pg).1 = 1) : triesL gs secs pg pa size got = parT (colsOf gs secs pg pa size) got := by
 unfold triesL
 rw [if_pos h, hk]
 rfl
theorem parT_mem {L : List Col} {x : Int × List UInt8} : x ∈ parT L got ↔ ∃ d ∈ parDevs L, withS L got d ≠ [] ∧ x = (d, withS L got d) := by
 unfold parT
 rw [List.mem_filterMap]
 refine exists_congr fun d => and_congr Iff.rfl ?_
 unfold parOne
 cases hw : withS L got d with
 | nil => simp
 | cons a r => simp [eq_comm]
theorem colTxt_full (h : fitsB gs secs pg pa size got = true) (hk : (grAt gs pg).1 = 1) {d : Int} {i : Nat} (hi : i < (colsOf gs secs pg pa size).length) (hne : colTxt (colsOf gs secs pg pa size) got d i ≠ []) : (colTxt (colsOf gs secs pg pa size) got d i).length = 64 := by
 have hP := parL_of (fits_parts h).1 (by rw [hk]; decide)
 unfold colTxt at hne ⊢
 split
 · rename_i hd
   rw [if_pos hd] at hne
   exact again_full hP hi (fits_getD h) (again_some hne)
 · rename_i hd
   rw [if_neg hd] at hne
   exact fits_getD h i hne
theorem tries_64 (h : fitsB gs secs pg pa size got = true) : ∀ x ∈ triesL gs secs pg pa size got, x.2.length = size.toNat * 64 := by
 obtain ⟨hm, hgl, _⟩ := fits_parts h
 intro x hx
 rcases kind_or hm with hk | hk
 · rw [tries_mir h hk] at hx
   have hM := mirL_of hm hk
   obtain ⟨j, hj, hx⟩ := mirT_mem.1 hx
   have hb := (in_part hM.len hj hM.pos).2.2.2
   unfold mirOne at hx
   split at hx
   · cases hx
   · rename_i hE
     have hE := (Bool.not_eq_true _).mp hE
     cases hx
     show (mirPart _ got j).flatten.length = _
     have hb2 : j * size.toNat + size.toNat ≤ got.length := by rw [hgl]; exact hb
     rw [mirPart_eq hb2, flat_64, List.length_map, List.length_range]
     intro t ht
     obtain ⟨i, hi, rfl⟩ := List.mem_map.1 ht
     exact fits_getD h _ ((hasE_part hb2).1 hE i (List.mem_range.1 hi))
 · rw [tries_par h hk] at hx
   obtain ⟨d, _, hne, rfl⟩ := parT_mem.1 hx
   have hP := parL_of hm (by rw [hk]; decide)
   have hall := withS_some hne
   show (withS _ got d).length = _
   have hw : withS (colsOf gs secs pg pa size) got d = ((dataIx (colsOf gs secs pg pa size) (colsOf gs secs pg pa size).length).map (colTxt (colsOf gs secs pg pa size) got d)).flatten := by
    unfold withS at hne ⊢
    simp only at hne ⊢
    split
    · rename_i h1; rw [if_pos h1] at hne; exact absurd rfl hne
    · rfl
   rw [hw, flat_64, List.length_map]
   · have h1 := dataIx_cnt (L := colsOf gs secs pg pa size) (k := (colsOf gs secs pg pa size).length) (Nat.le_refl _)
     have h2 := congrArg List.length h1
     rw [List.length_map, List.length_range] at h2
     rw [h2]
     unfold dataCnt
     rw [List.take_length, hP.cnt]
   · intro t ht
     obtain ⟨i, hi, rfl⟩ := List.mem_map.1 ht
     obtain ⟨h1, h2⟩ := dataIx_mem.1 hi
     exact colTxt_full h hk h1 (hall i h1 h2)
theorem tries_mono (h : fitsB gs secs pg pa size got = true) (h' : fitsB gs secs pg pa size got' = true) (hsub : ∀ k, k < got.length → got'.getD k [] = [] → got.getD k [] = []) (hne : triesL gs secs pg pa size got ≠ []) : triesL gs secs pg pa size got' ≠ [] := by
 obtain ⟨hm, hgl, _⟩ := fits_parts h
 obtain ⟨_, hgl', _⟩ := fits_parts h'
 obtain ⟨x, hx⟩ := List.exists_mem_of_ne_nil _ hne
 rcases kind_or hm with hk | hk
 · rw [tries_mir h hk] at hx
   rw [tries_mir h' hk]
   have hM := mirL_of hm hk
   obtain ⟨j, hj, hx⟩ := mirT_mem.1 hx
   have hb := (in_part hM.len hj hM.pos).2.2.2
   have hb2 : j * size.toNat + size.toNat ≤ got.length := by rw [hgl]; exact hb
   have hb3 : j * size.toNat + size.toNat ≤ got'.length := by rw [hgl']; exact hb
   have hE : hasE (mirPart size.toNat got j) = false := by
    unfold mirOne at hx
    split at hx
    · cases hx
    · rename_i hE; exact (Bool.not_eq_true _).mp hE
   have h1 := (hasE_part hb2).1 hE
   have hE' : hasE (mirPart size.toNat got' j) = false := (hasE_part hb3).2 fun t ht he => h1 t ht (hsub _ (by omega) he)
   have hone : mirOne (colsOf gs secs pg pa size) size.toNat got' j = some (((colsOf gs secs pg pa size).getD (j * size.toNat) (0, 0, false, 0)).1, (mirPart size.toNat got' j).flatten) := by
    unfold mirOne
    rw [hE', if_neg Bool.false_ne_true]
   exact List.ne_nil_of_mem (mirT_mem.2 ⟨j, hj, hone⟩)
 · rw [tries_par h hk] at hx
   rw [tries_par h' hk]
   have hP := parL_of hm (by rw [hk]; decide)
   obtain ⟨d, hd, hw, rfl⟩ := parT_mem.1 hx
   have hall := withS_some hw
   have hne' : ∀ i, i < (colsOf gs secs pg pa size).length → (got.getD i [] ≠ [] → got'.getD i [] ≠ []) := fun i hi h1 h2 => h1 (hsub i (by omega) h2)
   have hall' : ∀ i, i < (colsOf gs secs pg pa size).length → ((colsOf gs secs pg pa size).getD i (0, 0, false, 0)).2.2.1 = false → colTxt (colsOf gs secs pg pa size) got' d i ≠ [] := fun i h1 h2 => by
    have h3 := hall i h1 h2
    unfold colTxt at h3 ⊢
    split
    · rename_i hd1
      rw [if_pos hd1] at h3
      have h5 := again_full hP h1 (fits_getD h') (fun j a b c => hne' j a (again_some h3 j a b c))
      exact fun e => by rw [e] at h5; cases h5
    · rename_i hd1
      rw [if_neg hd1] at h3
      exact hne' i h1 h3
   refine List.ne_nil_of_mem (parT_mem.2 ⟨d, hd, ?_, rfl⟩)
   have hl : 0 < (colsOf gs secs pg pa size).length := by
    rcases Nat.eq_zero_or_pos (colsOf gs secs pg pa size).length with h0 | h0
    · have h1 := hP.cnt
      rw [List.length_eq_zero_iff.1 h0] at h1
      have := (cMay_true hm).2.1
      simp at h1
      omega
    · exact h0
   obtain ⟨p, p1, p2, _⟩ := hP.dat 0 hl
   have hE' : hasE ((dataIx (colsOf gs secs pg pa size) (colsOf gs secs pg pa size).length).map (colTxt (colsOf gs secs pg pa size) got' d)) = false := by
    unfold hasE
    rw [List.any_eq_false]
    intro t ht he
    obtain ⟨i, hi, rfl⟩ := List.mem_map.1 ht
    obtain ⟨q1, q2⟩ := dataIx_mem.1 hi
    exact hall' i q1 q2 (List.isEmpty_iff.1 he)
   unfold withS
   simp only
   rw [hE', if_neg Bool.false_ne_true]
   intro e
   have := hasE_cons10 (l := (dataIx (colsOf gs secs pg pa size) (colsOf gs secs pg pa size).length).map (colTxt (colsOf gs secs pg pa size) got' d)) (fun e2 => by
    have := dataIx_mem.2 ⟨p1, p2⟩
    rw [List.map_eq_nil_iff.1 e2] at this
    cases this) hE'
   rw [e] at this
   cases this
end
end Go.Proofs.YtbhkbcpljakmjaaGreat

namespace Go.Proofs.YtbhkbcpljakmjaaGreat
set_option linter.unusedVariables false
set_option linter.unusedSimpArgs false
open Go.RowKit
abbrev PlX := Int × Int
abbrev rawP (gs : List (Int × Int)) (secs size : Int) (aw : List Bool) (ds : List DevD) (pl : PlX) : List (List UInt8) := rawL gs secs pl.1 pl.2 size aw ds
def mendAt (gs : List (Int × Int)) (secs : Int) (aw : List Bool) (s : List UInt8) (ds : List DevD) (pl : PlX) : List DevD :=
 mendTo aw (ofList gs secs pl.1 pl.2 (secN s)) (encL gs secs pl.1 pl.2 s) ds (badL gs secs pl.1 pl.2 s (rawP gs secs (secN s) aw ds pl))
def mendAll (gs : List (Int × Int)) (secs : Int) (aw : List Bool) (s : List UInt8) (l : List PlX) (ds : List DevD) : List DevD := l.foldl (mendAt gs secs aw s) ds
def mendB (gs : List (Int × Int)) (secs : Int) (aw : List Bool) (s : List UInt8) (ds : List DevD) (pl : PlX) : Nat := mendN (hereD aw ds) (ofList gs secs pl.1 pl.2 (secN s)) (badL gs secs pl.1 pl.2 s (rawP gs secs (secN s) aw ds pl))
def mendC (gs : List (Int × Int)) (secs : Int) (aw : List Bool) (s : List UInt8) : List PlX → List DevD → Nat
 | [], _ => 0
 | pl :: r, ds => mendB gs secs aw s ds pl + mendC gs secs aw s r (mendAt gs secs aw s ds pl)
theorem mendAll_snoc (gs : List (Int × Int)) (secs : Int) (aw : List Bool) (s : List UInt8) (l : List PlX) (pl : PlX) (ds : List DevD) : mendAll gs secs aw s (l ++ [pl]) ds = mendAt gs secs aw s (mendAll gs secs aw s l ds) pl := by
 unfold mendAll
 rw [List.foldl_append]
 rfl
theorem mendC_snoc (gs : List (Int × Int)) (secs : Int) (aw : List Bool) (s : List UInt8) (pl : PlX) : ∀ (l : List PlX) (ds : List DevD), mendC gs secs aw s (l ++ [pl]) ds = mendC gs secs aw s l ds + mendB gs secs aw s (mendAll gs secs aw s l ds) pl
 | [], ds => by show mendB gs secs aw s ds pl + 0 = 0 + mendB gs secs aw s ds pl; omega
 | p :: l, ds => by
   show mendB gs secs aw s ds p + mendC gs secs aw s (l ++ [pl]) _ = _
   rw [mendC_snoc gs secs aw s pl l]
   show _ = mendB gs secs aw s ds p + mendC gs secs aw s l _ + mendB gs secs aw s (mendAll gs secs aw s l (mendAt gs secs aw s ds p)) pl
   omega
theorem bad_lt {gs : List (Int × Int)} {secs pg pa : Int} {s : List UInt8} {got : List (List UInt8)} : ∀ i ∈ badL gs secs pg pa s got, i < (ofList gs secs pg pa (secN s)).length := by
 intro i hi
 unfold badL at hi
 split at hi
 · have := (List.mem_filter.1 hi).1
   rw [List.mem_range, encL_len] at this
   exact this
 · cases hi
theorem bad_few {gs : List (Int × Int)} {secs pg pa : Int} {s : List UInt8} {got : List (List UInt8)} : (badL gs secs pg pa s got).length ≤ 64 := by
 unfold badL
 split
 · refine Nat.le_trans (List.length_filter_le _ _) ?_
   rw [List.length_range, encL_len]
   exact ofList_le _ _ _ _ _
 · exact Nat.zero_le _
theorem mendAt_hereD {gs : List (Int × Int)} {secs : Int} {aw : List Bool} {s : List UInt8} {ds : List DevD} {pl : PlX} (i : Nat) : hereD aw (mendAt gs secs aw s ds pl) i = hereD aw ds i := mendTo_hereD i _ _
theorem mendAt_len {gs : List (Int × Int)} {secs : Int} {aw : List Bool} {s : List UInt8} {ds : List DevD} {pl : PlX} : (mendAt gs secs aw s ds pl).length = ds.length := mendTo_len _ _
theorem mendAt_ok {gs : List (Int × Int)} {secs : Int} {aw : List Bool} {s : List UInt8} {ds : List DevD} {pl : PlX} {N sc : Nat} (h : DsOk N sc ds) : DsOk (N + 64) sc (mendAt gs secs aw s ds pl) :=
 (mendTo_ok _ _ h).mono (by have := bad_few (gs := gs) (secs := secs) (pg := pl.1) (pa := pl.2) (s := s) (got := rawP gs secs (secN s) aw ds pl); omega)
theorem mendAll_ok {gs : List (Int × Int)} {secs : Int} {aw : List Bool} {s : List UInt8} {sc : Nat} : ∀ (l : List PlX) (ds : List DevD) {N : Nat}, DsOk N sc ds → DsOk (N + 64 * l.length) sc (mendAll gs secs aw s l ds)
 | [], _, _, h => h
 | p :: l, ds, N, h => by
   have := mendAll_ok (gs := gs) (secs := secs) (aw := aw) (s := s) l _ (mendAt_ok (gs := gs) (secs := secs) (aw := aw) (s := s) (pl := p) h)
   rw [List.length_cons, show N + 64 * (l.length + 1) = N + 64 + 64 * l.length by omega]
   exact this
section
variable {gs : List (Int × Int)} {secs n N : Nat} {aw : List Bool} {ds : List DevD}
theorem rdS_64 {d : DevD} (h : d.Ok) (a : Int) : d.rdS a ≠ [] → (d.rdS a).length = 64 := fun hne => by
 unfold DevD.rdS at hne ⊢
 split
 · rename_i hm
   obtain ⟨h1, h2, _⟩ := DevD.mayE_ok hm
   unfold DevD.now DevD.medAt
   refine DevD.lastOr_len (h.cac _) (h.med _ ?_)
   rw [List.getD_eq_getElem?_getD, List.getElem?_eq_getElem (show a.toNat < d.med.length by omega)]
   exact List.getElem_mem _
 · rename_i hm
   rw [if_neg hm] at hne
   exact absurd rfl hne
theorem rdC_64 (ok : DsOk N secs ds) (c : Col) : rdC aw ds c ≠ [] → (rdC aw ds c).length = 64 := fun hne => by
 unfold rdC at hne ⊢
 split
 · rename_i hh
   rw [if_pos hh] at hne
   cases hd : ds[c.1.toNat]? with
   | none => rw [hd] at hne; exact absurd rfl hne
   | some d =>
    rw [hd] at hne
    exact rdS_64 (ok d (List.mem_of_getElem? hd)).1 _ hne
 · rename_i hh
   rw [if_neg hh] at hne
   exact absurd rfl hne
theorem raw_len {pg pa size : Int} (hm : cMay gs secs pg pa size = true) : (rawL gs secs pg pa size aw ds).length = (colsOf gs secs pg pa size).length := by
 unfold rawL
 rw [List.length_map, ofList_may hm]
theorem raw_get {pg pa size : Int} (hm : cMay gs secs pg pa size = true) {k : Nat} (hk : k < (colsOf gs secs pg pa size).length) : (rawL gs secs pg pa size aw ds).getD k [] = rdC aw ds ((colsOf gs secs pg pa size).getD k (0, 0, false, 0)) := by
 unfold rawL
 rw [ofList_may hm, List.getD_eq_getElem?_getD, List.getElem?_map, colD_in hk]
 rfl
theorem raw_fits {pg pa size : Int} (hm : cMay gs secs pg pa size = true) (ok : DsOk N secs ds) : fitsB gs secs pg pa size (rawL gs secs pg pa size aw ds) = true := by
 unfold fitsB
 rw [hm, raw_len hm]
 simp only [Bool.true_and, beq_self_eq_true, Bool.not_eq_true']
 rw [List.any_eq_false]
 intro t ht
 unfold rawL at ht
 obtain ⟨c, _, rfl⟩ := List.mem_map.1 ht
 unfold fitP
 cases hq : rdC aw ds c with
 | nil => simp
 | cons a r =>
  have := rdC_64 ok c (by rw [hq]; simp)
  rw [hq] at this
  simp only [List.isEmpty_cons, Bool.not_false, Bool.true_and, bne_iff_ne, ne_eq, Decidable.not_not]
  omega
theorem raw_mend {pl : PlX} {s : List UInt8} (hr : gRight gs secs = true) (hn : gSum gs = n) (hl : ds.length = n) (ok : DsOk N secs ds) (hE : encE gs secs pl.1 pl.2 s = 0) :
 rawP gs secs (secN s) aw (mendAt gs secs aw s ds pl) pl = backG (colsOf gs secs pl.1 pl.2 (secN s)) (encL gs secs pl.1 pl.2 s) (hereD aw ds) := by
 obtain ⟨e1, e2, e3⟩ := encE_zero hE
 have hc := cols_of hr hn hE
 have hfit := raw_fits (aw := aw) e2 ok
 have hbl : ∀ k, k ∈ badL gs secs pl.1 pl.2 s (rawP gs secs (secN s) aw ds pl) ↔ k < (encL gs secs pl.1 pl.2 s).length ∧ (encL gs secs pl.1 pl.2 s).getD k [] ≠ (rawP gs secs (secN s) aw ds pl).getD k [] := fun k => by
  unfold badL
  rw [hE, hfit]
  simp only [decide_true, Bool.true_and, if_true]
  rw [List.mem_filter, List.mem_range, bne_iff_ne]
 have hTl : (encL gs secs pl.1 pl.2 s).length = (colsOf gs secs pl.1 pl.2 (secN s)).length := by rw [encL_len, ofList_may e2]
 have hblt := @bad_lt gs secs pl.1 pl.2 s (rawP gs secs (secN s) aw ds pl)
 apply List.ext_getElem?
 intro k
 by_cases hk : k < (colsOf gs secs pl.1 pl.2 (secN s)).length
 · have h1 := raw_get (aw := aw) (ds := mendAt gs secs aw s ds pl) e2 hk
   have h2 := backG_get (T := encL gs secs pl.1 pl.2 s) (hs := hereD aw ds) hk
   have h3 := raw_get (aw := aw) (ds := ds) e2 hk
   rw [List.getElem?_eq_getElem (by rw [raw_len e2]; exact hk), List.getElem?_eq_getElem (by rw [backG_len]; exact hk)]
   rw [List.getD_eq_getElem?_getD, List.getElem?_eq_getElem (by rw [raw_len e2]; exact hk)] at h1
   rw [List.getD_eq_getElem?_getD, List.getElem?_eq_getElem (by rw [backG_len]; exact hk)] at h2
   simp only [Option.getD_some] at h1 h2
   rw [h1, h2, rdC_look, mendAt_hereD]
   cases hh : hereD aw ds ((colsOf gs secs pl.1 pl.2 (secN s)).getD k (0, 0, false, 0)).1.toNat with
   | false => rfl
   | true =>
    simp only [if_true]
    congr 1
    unfold mendAt
    rw [ofList_may e2] at hc hblt ⊢
    rw [mendTo_own hk _ _ ok (by rw [hl]; exact hc) hblt, hh, Bool.and_true]
    by_cases hb : k ∈ badL gs secs pl.1 pl.2 s (rawP gs secs (secN s) aw ds pl)
    · rw [decide_eq_true hb]; rfl
    · rw [decide_eq_false hb, if_neg Bool.false_ne_true]
      have h4 := fun h => hb ((hbl k).2 ⟨by omega, h⟩)
      have h5 := Decidable.of_not_not h4
      rw [h5, h3, rdC_look, hh]
      rfl
 · rw [List.getElem?_eq_none (by rw [raw_len e2]; omega), List.getElem?_eq_none (by rw [backG_len]; omega)]
theorem raw_other {pl ql : PlX} {s : List UInt8} {size : Int} (hr : gRight gs secs = true) (hn : gSum gs = n) (hl : ds.length = n) (ok : DsOk N secs ds) (hE : encE gs secs pl.1 pl.2 s = 0) (hq : cMay gs secs ql.1 ql.2 size = true)
 (hap : ∀ i k : Nat, ∀ x y : Col, (colsOf gs secs pl.1 pl.2 (secN s))[i]? = some x → (colsOf gs secs ql.1 ql.2 size)[k]? = some y → ¬ (x.1 = y.1 ∧ x.2.1 = y.2.1)) :
 rawP gs secs size aw (mendAt gs secs aw s ds pl) ql = rawP gs secs size aw ds ql := by
 obtain ⟨e1, e2, e3⟩ := encE_zero hE
 have hc := cols_of hr hn hE
 have hblt := @bad_lt gs secs pl.1 pl.2 s (rawP gs secs (secN s) aw ds pl)
 unfold rawP rawL
 rw [ofList_may hq]
 refine List.map_congr_left fun c hcm => ?_
 obtain ⟨k, hk⟩ := List.mem_iff_getElem?.1 hcm
 rw [rdC_look, rdC_look, mendAt_hereD]
 split
 · have h1 := ((apart_pure hq hq).1 k c hk).1
   unfold mendAt
   rw [ofList_may e2] at hc hblt ⊢
   refine mendTo_other h1 _ _ ok (by rw [hl]; exact hc) hblt fun i hi h => ?_
   exact hap i k _ _ (colD_in (hblt i hi)) hk ⟨h.1.symm, h.2.symm⟩
 · rfl
end
end Go.Proofs.YtbhkbcpljakmjaaGreat

namespace Go.Proofs.YtbhkbcpljakmjaaGreat
set_option linter.unusedVariables false
set_option linter.unusedSimpArgs false
open Go.RowKit
section
variable {gs : List (Int × Int)} {secs n N : Nat} {aw : List Bool} {ds : List DevD} {q : PtrD}
theorem tries_back {pg pa : Int} {s : List UInt8} {got : List (List UInt8)} (h : cMay gs secs pg pa (secN s) = true) (hs : secOk s = true) (hf : fitsB gs secs pg pa (secN s) got = true)
 (hg : ∀ i, i < (colsOf gs secs pg pa (secN s)).length → got.getD i [] = (encL gs secs pg pa s).getD i [] ∨ got.getD i [] = []) : ∀ x ∈ triesL gs secs pg pa (secN s) got, x.2 = s := by
 intro x hx
 rcases kind_or h with hk | hk
 · rw [tries_mir hf hk, Int.toNat_natCast] at hx
   exact mir_all_back h hk hs (fits_parts hf).2.1 hg x hx
 · rw [tries_par hf hk] at hx
   exact par_all_back h hs (by rw [hk]; decide) hg x hx
theorem tryAt_some {raw : List (List UInt8)} {pl : PlX} {x : TryX} (h : tryAt gs secs q raw pl = some x) : x ∈ triesL gs secs pl.1 pl.2 q.size raw ∧ fsum x.2 = q.sum := by
 unfold tryAt at h
 exact ⟨List.mem_of_find?_eq_some h, by have := List.find?_some h; exact eq_of_beq this⟩
theorem tryAt_all {raw : List (List UInt8)} {pl : PlX} {t : List UInt8} (ht : fsum t = q.sum) (h : ∀ x ∈ triesL gs secs pl.1 pl.2 q.size raw, x.2 = t) : (triesL gs secs pl.1 pl.2 q.size raw = [] ∧ tryAt gs secs q raw pl = none) ∨ ∃ x, tryAt gs secs q raw pl = some x ∧ x.2 = t := by
 unfold tryAt
 cases hl : triesL gs secs pl.1 pl.2 q.size raw with
 | nil => exact .inl ⟨rfl, rfl⟩
 | cons a r =>
  have ha := h a (by rw [hl]; exact List.mem_cons_self)
  refine .inr ⟨a, ?_, ha⟩
  rw [List.find?_cons, ha, ht, beq_self_eq_true]
theorem found_enc {pl ql : PlX} (hp : cMay gs secs pl.1 pl.2 q.size = true) (hm : cMay gs secs ql.1 ql.2 q.size = true) (ok : DsOk N secs ds) {x : TryX} (h : tryAt gs secs q (rawP gs secs q.size aw ds pl) pl = some x) :
 (secN x.2 : Int) = q.size ∧ secOk x.2 = true ∧ encE gs secs ql.1 ql.2 x.2 = 0 ∧ x.2.length = q.size.toNat * 64 := by
 have h1 := tries_64 (raw_fits (aw := aw) hp ok) x (tryAt_some h).1
 obtain ⟨_, hz1, hz2, _⟩ := cMay_true hp
 have h2 : (secN x.2 : Int) = q.size := by unfold secN; omega
 have h3 : secOk x.2 = true := by
  unfold secOk
  cases hx : x.2 with
  | nil => rw [hx] at h1; simp at h1; omega
  | cons a r =>
   rw [hx] at h1
   simp at h1 ⊢
   omega
 refine ⟨h2, h3, ?_, h1⟩
 unfold encE ofErr
 rw [h3, if_pos rfl, h2, if_pos hm]
theorem back_sub {pl : PlX} {s : List UInt8} (hm : cMay gs secs pl.1 pl.2 (secN s) = true) {k : Nat} (hk : k < (colsOf gs secs pl.1 pl.2 (secN s)).length) (h : (backG (colsOf gs secs pl.1 pl.2 (secN s)) (encL gs secs pl.1 pl.2 s) (hereD aw ds)).getD k [] = []) :
 (rawP gs secs (secN s) aw ds pl).getD k [] = [] := by
 rw [backG_get hk] at h
 rw [raw_get hm hk, rdC_look]
 split at h
 · have := (enc_encL hm).all64 k hk
   rw [h] at this
   cases this
 · rename_i hh
   rw [if_neg hh]
theorem back_or {pl : PlX} {s : List UInt8} (i : Nat) (hi : i < (colsOf gs secs pl.1 pl.2 (secN s)).length) : (backG (colsOf gs secs pl.1 pl.2 (secN s)) (encL gs secs pl.1 pl.2 s) (hereD aw ds)).getD i [] = (encL gs secs pl.1 pl.2 s).getD i [] ∨ (backG (colsOf gs secs pl.1 pl.2 (secN s)) (encL gs secs pl.1 pl.2 s) (hereD aw ds)).getD i [] = [] := by
 rw [backG_get hi]
 split
 · exact .inl rfl
 · exact .inr rfl
theorem found_again {pl : PlX} (hm : cMay gs secs pl.1 pl.2 q.size = true) (ok : DsOk N secs ds) {x : TryX} (h : tryAt gs secs q (rawP gs secs q.size aw ds pl) pl = some x) :
 ∃ y, tryAt gs secs q (backG (colsOf gs secs pl.1 pl.2 q.size) (encL gs secs pl.1 pl.2 x.2) (hereD aw ds)) pl = some y ∧ y.2 = x.2 := by
 obtain ⟨e1, e2, e3, _⟩ := found_enc hm hm ok h
 obtain ⟨f1, f2⟩ := tryAt_some h
 have hfr := raw_fits (aw := aw) hm ok
 rw [← e1] at hm hfr f1 ⊢
 have hfb := back_fits (hs := hereD aw ds) hm
 rcases tryAt_all (q := q) (gs := gs) (secs := secs) (pl := pl) (t := x.2) f2 (raw := backG (colsOf gs secs pl.1 pl.2 (secN x.2)) (encL gs secs pl.1 pl.2 x.2) (hereD aw ds)) (by rw [← e1]; exact tries_back hm e2 hfb back_or) with ⟨h1, _⟩ | h1
 · rw [← e1] at h1
   exact absurd h1 (tries_mono hfr hfb (fun k hk => back_sub hm (by rw [raw_len hm] at hk; exact hk)) (List.ne_nil_of_mem f1))
 · exact h1
theorem back_none {pl : PlX} {t : List UInt8} (e1 : (secN t : Int) = q.size) (e2 : secOk t = true) (hm : cMay gs secs pl.1 pl.2 q.size = true) (ht : fsum t = q.sum) :
 tryAt gs secs q (backG (colsOf gs secs pl.1 pl.2 q.size) (encL gs secs pl.1 pl.2 t) (hereD aw ds)) pl = none ∨ ∃ y, tryAt gs secs q (backG (colsOf gs secs pl.1 pl.2 q.size) (encL gs secs pl.1 pl.2 t) (hereD aw ds)) pl = some y ∧ y.2 = t := by
 rw [← e1] at hm ⊢
 have hfb := back_fits (hs := hereD aw ds) hm
 rcases tryAt_all (q := q) (gs := gs) (secs := secs) (pl := pl) (t := t) ht (raw := backG (colsOf gs secs pl.1 pl.2 (secN t)) (encL gs secs pl.1 pl.2 t) (hereD aw ds)) (by rw [← e1]; exact tries_back hm e2 hfb back_or) with ⟨_, h1⟩ | h1
 · exact .inl h1
 · exact .inr h1
theorem look_found (hq : rightB gs secs q = true) (ok : DsOk N secs ds) {c : CameD} (h : lookV gs secs q (rawP gs secs q.size aw ds) = (c, 0)) : fsum c.text = q.sum ∧ c.text.length = q.size.toNat * 64 := by
 unfold lookV at h
 rw [if_pos hq] at h
 have hm := pls_may hq
 suffices ∀ (l : List PlX) (i : Nat) (all : Bool), (∀ pl ∈ l, cMay gs secs pl.1 pl.2 q.size = true) → lookFrom gs secs q (rawP gs secs q.size aw ds) l i all = (c, 0) → fsum c.text = q.sum ∧ c.text.length = q.size.toNat * 64 from this _ _ _ hm h
 intro l
 induction l with
 | nil =>
  intro i all _ h
  unfold lookFrom at h
  have := congrArg Prod.snd h
  cases all <;> simp at this
 | cons pl r ih =>
  intro i all hm h
  unfold lookFrom at h
  split at h
  · rename_i x hx
    cases h
    have hp := hm pl List.mem_cons_self
    exact ⟨(tryAt_some hx).2, (found_enc hp hp ok hx).2.2.2⟩
  · exact ih _ _ (fun p hp => hm p (List.mem_cons_of_mem _ hp)) h
theorem look_err {gs : List (Int × Int)} {secs : Int} {q : PtrD} {R : PlX → List (List UInt8)} {c : CameD} {e : Int} (h : lookV gs secs q R = (c, e)) (he : e ≠ 0) : c = came0 := by
 unfold lookV at h
 split at h
 · suffices ∀ (l : List PlX) (i : Nat) (all : Bool), lookFrom gs secs q R l i all = (c, e) → c = came0 from this _ _ _ h
   intro l
   induction l with
   | nil => intro i all h; unfold lookFrom at h; exact (congrArg Prod.fst h).symm
   | cons pl r ih =>
    intro i all h
    unfold lookFrom at h
    split at h
    · exact absurd (congrArg Prod.snd h).symm he
    · exact ih _ _ h
 · exact (congrArg Prod.fst h).symm
theorem look_after (hq : rightB gs secs q = true) (hr : gRight gs secs = true) (hn : gSum gs = n) (hl : ds.length = n) (ok : DsOk N secs ds) {c : CameD} (h : lookV gs secs q (rawP gs secs q.size aw ds) = (c, 0)) :
 ∃ c', lookV gs secs q (rawP gs secs q.size aw (mendAll gs secs aw c.text ((plsL q).take (c.place + 1)) ds)) = (c', 0) ∧ c'.text = c.text := by
 have hm := pls_may hq
 unfold lookV at h ⊢
 rw [if_pos hq] at h ⊢
 rw [plsL_right hq] at h hm ⊢
 cases ht : q.two with
 | false =>
  try rw [ht] at h hm
  simp only [Bool.false_eq_true, if_false] at h hm ⊢
  have hA := hm _ List.mem_cons_self
  unfold lookFrom at h
  split at h
  · rename_i x hx
    cases h
    obtain ⟨y, hy, hy2⟩ := found_again hA ok hx
    obtain ⟨e1, e2, e3, _⟩ := found_enc hA hA ok hx
    have hrm := raw_mend (aw := aw) hr hn hl ok e3
    rw [e1] at hrm
    refine ⟨⟨y.2, 0, y.1, 0⟩, ?_, hy2⟩
    unfold lookFrom
    show (match tryAt gs secs q (rawP gs secs q.size aw (mendAt gs secs aw x.2 ds (q.ag, q.aa)) (q.ag, q.aa)) (q.ag, q.aa) with
     | some x => _
     | none => _) = _
    rw [hrm, hy]
  · unfold lookFrom at h
    have := congrArg Prod.snd h
    simp only at this
    split at this <;> cases this
 | true =>
  try rw [ht] at h hm
  simp only [if_true] at h hm ⊢
  have hA := hm (q.ag, q.aa) List.mem_cons_self
  have hB := hm (q.bg, q.ba) (List.mem_cons_of_mem _ List.mem_cons_self)
  have hap : apB gs secs q.ag q.aa q.bg q.ba q.size = true := by
   simp only [rightB, Bool.and_eq_true] at hq
   have := hq.2
   rw [ht, if_pos rfl, Bool.and_eq_true] at this
   exact this.2
  have hap2 := (apart_pure hA hB).2.2 hap
  unfold lookFrom at h
  split at h
  · rename_i x hx
    cases h
    obtain ⟨y, hy, hy2⟩ := found_again hA ok hx
    obtain ⟨e1, e2, e3, _⟩ := found_enc hA hA ok hx
    have hrm := raw_mend (aw := aw) hr hn hl ok e3
    rw [e1] at hrm
    refine ⟨⟨y.2, 0, y.1, 0⟩, ?_, hy2⟩
    unfold lookFrom
    show (match tryAt gs secs q (rawP gs secs q.size aw (mendAt gs secs aw x.2 ds (q.ag, q.aa)) (q.ag, q.aa)) (q.ag, q.aa) with
     | some x => _
     | none => _) = _
    rw [hrm, hy]
  · unfold lookFrom at h
    split at h
    · rename_i x hx
      cases h
      obtain ⟨e1, e2, e3, _⟩ := found_enc hB hB ok hx
      obtain ⟨_, _, e3A, _⟩ := found_enc hB hA ok hx
      have hrA := raw_mend (aw := aw) hr hn hl ok e3A
      have okA : DsOk (N + 64) secs (mendAt gs secs aw x.2 ds (q.ag, q.aa)) := mendAt_ok ok
      have hlA : (mendAt gs secs aw x.2 ds (q.ag, q.aa)).length = n := by rw [mendAt_len]; exact hl
      have hrB := raw_mend (aw := aw) (pl := (q.bg, q.ba)) (s := x.2) hr hn hlA okA e3
      have hoA := raw_other (aw := aw) (pl := (q.bg, q.ba)) (ql := (q.ag, q.aa)) (s := x.2) (size := q.size) hr hn hlA okA e3 hA (by
       rw [e1]
       intro i k x y hx hy ⟨a, b⟩
       exact hap2 k i y x hy hx ⟨a.symm, b.symm⟩)
      have hoB := raw_other (aw := aw) (pl := (q.ag, q.aa)) (ql := (q.bg, q.ba)) (s := x.2) (size := q.size) hr hn hl ok e3A hB (by rw [e1]; exact hap2)
      have hxA : tryAt gs secs q (rawP gs secs q.size aw (mendAt gs secs aw x.2 ds (q.ag, q.aa)) (q.bg, q.ba)) (q.bg, q.ba) = some x := by rw [hoB]; exact hx
      obtain ⟨y, hy, hy2⟩ := found_again hB okA hxA
      rw [e1] at hrA hrB
      have hfs := (tryAt_some hx).2
      have hnA := back_none (aw := aw) (ds := ds) (pl := (q.ag, q.aa)) e1 e2 hA hfs
      show ∃ c', lookFrom gs secs q (rawP gs secs q.size aw (mendAt gs secs aw x.2 (mendAt gs secs aw x.2 ds (q.ag, q.aa)) (q.bg, q.ba))) [(q.ag, q.aa), (q.bg, q.ba)] 0 true = (c', 0) ∧ c'.text = x.2
      rcases hnA with hnA | ⟨z, hz, hz2⟩
      · refine ⟨⟨y.2, 1, y.1, 0⟩, ?_, hy2⟩
        unfold lookFrom
        rw [hoA, hrA, hnA]
        simp only
        unfold lookFrom
        rw [hrB, hy]
      · refine ⟨⟨z.2, 0, z.1, 0⟩, ?_, hz2⟩
        unfold lookFrom
        rw [hoA, hrA, hz]
    · unfold lookFrom at h
      have := congrArg Prod.snd h
      simp only at this
      split at this <;> cases this
end
end Go.Proofs.YtbhkbcpljakmjaaGreat
