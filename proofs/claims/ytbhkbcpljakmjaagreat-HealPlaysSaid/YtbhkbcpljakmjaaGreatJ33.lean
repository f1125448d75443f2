/-
  The document's tries (layer 7), in plain words: they are the program's.
-/
import Derived.Test.YtbhkbcpljakmjaaGreatJ32
namespace Go.Proofs.YtbhkbcpljakmjaaGreat
set_option linter.unusedVariables false
set_option linter.unusedSimpArgs false
open Go.RowKit
def trL (x : Int × List UInt8) : List Value := [.int .i64 x.1, str x.2]
def trC (l : List (Int × List UInt8)) : List Value := l.flatMap trL
theorem trC_at {l : List (Int × List UInt8)} {i : Nat} {x : Int × List UInt8} (h : l[i]? = some x) : (trC l)[i * 2]? = some (.int .i64 x.1) ∧ (trC l)[i * 2 + 1]? = some (str x.2) :=
 ⟨flat_at' trL 2 (fun _ => rfl) l i x h 0 (by omega), flat_at' trL 2 (fun _ => rfl) l i x h 1 (by omega)⟩
theorem trC_snoc (l : List (Int × List UInt8)) (x : Int × List UInt8) : trC (l ++ [x]) = trC l ++ [.int .i64 x.1, str x.2] := by simp [trC, trL]
def pickB (L : List Col) (k d : Int) (i : Nat) : Bool := !((L.getD i (0, 0, false, 0)).2.2.1 || ((k == 0) && ((L.getD i (0, 0, false, 0)).1 != d)))
def cT (L : List Col) (got : List (List UInt8)) (k d : Int) (i : Nat) : List UInt8 := if (k == 1) && ((L.getD i (0, 0, false, 0)).1 == d) then againS L got i else got.getD i []
def pickIx (L : List Col) (k d : Int) (n : Nat) : List Nat := (List.range n).filter (pickB L k d)
def partsT (L : List Col) (got : List (List UInt8)) (k d : Int) (n : Nat) : List (List UInt8) := (pickIx L k d n).map (cT L got k d)
def ownT (L : List Col) (f k d : Int) (n : Nat) : Bool := decide (d < f) || (List.range n).any fun i => pickB L k d i && ((L.getD i (0, 0, false, 0)).1 == d)
def refOneT (L : List Col) (got : List (List UInt8)) (f k d : Int) : Option (Int × List UInt8) :=
 if ownT L f k d L.length && !hasE (partsT L got k d L.length) then some (if d < f then -1 else d, (partsT L got k d L.length).flatten) else none
def refTo (L : List Col) (got : List (List UInt8)) (f k : Int) (n : Nat) : List (Int × List UInt8) := (List.range n).filterMap fun j : Nat => refOneT L got f k (f - k + (j : Int))
theorem refTo_step (L : List Col) (got : List (List UInt8)) (f k : Int) (n : Nat) : refTo L got f k (n + 1) = refTo L got f k n ++ (refOneT L got f k (f - k + n)).toList := by
 unfold refTo
 rw [List.range_succ, List.filterMap_append]
 congr 1
theorem refTo_len (L : List Col) (got : List (List UInt8)) (f k : Int) (n : Nat) : (refTo L got f k n).length ≤ n := by
 unfold refTo
 exact Nat.le_trans (List.length_filterMap_le _ _) (by simp)
theorem partsT_step (L : List Col) (got : List (List UInt8)) (k d : Int) (n : Nat) : partsT L got k d (n + 1) = partsT L got k d n ++ if pickB L k d n then [cT L got k d n] else [] := by
 unfold partsT pickIx
 rw [List.range_succ, List.filter_append, List.map_append]
 congr 1
 cases h : pickB L k d n <;> simp [List.filter_cons, h]
theorem ownT_step (L : List Col) (f k d : Int) (n : Nat) : ownT L f k d (n + 1) = (ownT L f k d n || (pickB L k d n && ((L.getD n (0, 0, false, 0)).1 == d))) := by
 unfold ownT
 rw [List.range_succ, List.any_append, ← Bool.or_assoc]
 simp
theorem partsT_skip {L : List Col} {got : List (List UInt8)} {k d : Int} {n : Nat} (h : pickB L k d n = false) : partsT L got k d (n + 1) = partsT L got k d n := by rw [partsT_step, h]; simp
theorem ownT_skip {L : List Col} {f k d : Int} {n : Nat} (h : pickB L k d n = false) : ownT L f k d (n + 1) = ownT L f k d n := by rw [ownT_step, h]; simp
theorem partsT_take {L : List Col} {got : List (List UInt8)} {k d : Int} {n : Nat} (h : pickB L k d n = true) : partsT L got k d (n + 1) = partsT L got k d n ++ [cT L got k d n] := by rw [partsT_step, h]; simp
theorem ownT_take {L : List Col} {f k d : Int} {n : Nat} (h : pickB L k d n = true) : ownT L f k d (n + 1) = (ownT L f k d n || ((L.getD n (0, 0, false, 0)).1 == d)) := by rw [ownT_step, h]; simp
theorem fm_congr {α β : Type} {f g : α → Option β} : ∀ {l : List α}, (∀ x ∈ l, f x = g x) → l.filterMap f = l.filterMap g
 | [], _ => rfl
 | a :: r, h => by
   rw [List.filterMap_cons, List.filterMap_cons, h a List.mem_cons_self, fm_congr fun x hx => h x (List.mem_cons_of_mem _ hx)]
theorem rising_same : ∀ {l m : List Int}, l.Pairwise (· < ·) → m.Pairwise (· < ·) → (∀ x, x ∈ l ↔ x ∈ m) → l = m
 | [], [], _, _, _ => rfl
 | [], b :: u, _, _, h => by have := (h b).2 List.mem_cons_self; cases this
 | a :: t, [], _, _, h => by have := (h a).1 List.mem_cons_self; cases this
 | a :: t, b :: u, h1, h2, h => by
   obtain ⟨h11, h12⟩ := List.pairwise_cons.1 h1
   obtain ⟨h21, h22⟩ := List.pairwise_cons.1 h2
   have hab : a = b := by
    rcases List.mem_cons.1 ((h a).1 List.mem_cons_self) with e | e
    · exact e
    · rcases List.mem_cons.1 ((h b).2 List.mem_cons_self) with e' | e'
      · exact e'.symm
      · have := h21 a e; have := h11 b e'; omega
   subst hab
   congr 1
   refine rising_same h12 h22 fun x => ⟨fun hx => ?_, fun hx => ?_⟩
   · rcases List.mem_cons.1 ((h x).1 (List.mem_cons_of_mem _ hx)) with e | e
     · have := h11 x hx; omega
     · exact e
   · rcases List.mem_cons.1 ((h x).2 (List.mem_cons_of_mem _ hx)) with e | e
     · have := h21 x hx; omega
     · exact e
theorem part_filter (sz j : Nat) (h0 : 0 < sz) : ∀ wd, j < wd → (List.range (wd * sz)).filter (fun i => i / sz == j) = (List.range sz).map fun t => j * sz + t := by
 have none : ∀ w, w ≤ j → (List.range (w * sz)).filter (fun i => i / sz == j) = [] := by
  intro w hw
  rw [List.filter_eq_nil_iff]
  intro i hi
  have hi := List.mem_range.1 hi
  have : i / sz < w := Nat.div_lt_of_lt_mul (by rw [Nat.mul_comm]; exact hi)
  simp
  omega
 intro wd
 induction wd with
 | zero => intro h; omega
 | succ w ih =>
  intro h
  have hdv : ∀ t, t < sz → (w * sz + t) / sz = w := fun t ht => by rw [Nat.mul_comm, Nat.mul_add_div h0, Nat.div_eq_of_lt ht, Nat.add_zero]
  rw [Nat.add_mul, Nat.one_mul, List.range_add, List.filter_append, List.filter_map]
  by_cases hj : j < w
  · rw [ih hj, List.filter_eq_nil_iff.2, List.map_nil, List.append_nil]
    intro t ht
    have ht := List.mem_range.1 ht
    simp only [Function.comp_apply, hdv t ht, beq_iff_eq]
    omega
  · obtain rfl : j = w := by omega
    rw [none j (Nat.le_refl _), List.nil_append, List.filter_eq_self.2]
    intro t ht
    have ht := List.mem_range.1 ht
    simp only [Function.comp_apply, hdv t ht, beq_self_eq_true]
theorem hasE_cons {l : List (List UInt8)} (hne : l ≠ []) (h : hasE l = false) : l.flatten.isEmpty = false := by
 cases l with
 | nil => exact absurd rfl hne
 | cons a r =>
  unfold hasE at h
  rw [List.any_cons, Bool.or_eq_false_iff] at h
  cases a with
  | nil => exact absurd h.1 (by decide)
  | cons x y => rfl
section
variable {gs : List (Int × Int)} {secs pg pa size : Int} {got : List (List UInt8)}
theorem dev_in (h : cMay gs secs pg pa size = true) {i : Nat} (hi : i < (colsOf gs secs pg pa size).length) :
 gFirst gs secs pg ≤ ((colsOf gs secs pg pa size).getD i (0, 0, false, 0)).1 ∧ ((colsOf gs secs pg pa size).getD i (0, 0, false, 0)).1 < gFirst gs secs pg + (grAt gs pg).2 := by
 obtain ⟨t, hl, _⟩ := cols_lie h (colD_in hi)
 obtain ⟨hhas, hz1, hz2, hp1, hp2, hpos⟩ := cMay_true h
 obtain ⟨g, x, rfl, hk, hl4, hs1, hs2, hx, hgx, ho⟩ := gHas_true hhas
 rw [hgx] at hl ⊢
 have := lies_dev hhas hx ho hl
 rw [gFirst_true hhas]
 exact this
theorem first_nn (h : cMay gs secs pg pa size = true) : 0 ≤ gFirst gs secs pg := by
 obtain ⟨hhas, hz1, hz2, hp1, hp2, hpos⟩ := cMay_true h
 obtain ⟨g, x, rfl, hk, hl4, hs1, hs2, hx, hgx, ho⟩ := gHas_true hhas
 rw [gFirst_true hhas]
 exact (sum_take_bd (gHas_right hhas) g).1
theorem ref_mir (h : cMay gs secs pg pa size = true) (hk : (grAt gs pg).1 = 0) (hgl : got.length = (colsOf gs secs pg pa size).length) :
 refTo (colsOf gs secs pg pa size) got (gFirst gs secs pg) 0 (grAt gs pg).2.toNat = mirT (colsOf gs secs pg pa size) size.toNat got (grAt gs pg).2.toNat := by
 have hM := mirL_of h hk
 generalize hL : colsOf gs secs pg pa size = L at *
 generalize (grAt gs pg).2.toNat = wd at *
 generalize size.toNat = sz at *
 generalize gFirst gs secs pg = f at *
 unfold refTo mirT
 refine fm_congr fun j hj => ?_
 have hj := List.mem_range.1 hj
 have hle : j * sz + sz ≤ wd * sz := by
  have := Nat.mul_le_mul_right sz (show j + 1 ≤ wd by omega)
  rw [Nat.add_mul, Nat.one_mul] at this
  exact this
 have hp0 := hM.pos
 have hpk : ∀ i, i < L.length → pickB L 0 (f - 0 + j) i = (i / sz == j) := fun i hi => by
  unfold pickB
  rw [hM.dat i hi, hM.dev i hi]
  by_cases e : i / sz = j
  · rw [e, beq_self_eq_true, show (f + (j : Int) != f - 0 + j) = false by rw [bne_eq_false_iff_eq]; omega, beq_self_eq_true]; rfl
  · rw [beq_eq_false_iff_ne.2 e, show (f + ((i / sz : Nat) : Int) != f - 0 + j) = true by rw [bne_iff_ne]; omega]; rfl
 have hix : pickIx L 0 (f - 0 + j) L.length = (List.range sz).map fun t => j * sz + t := by
  rw [← part_filter sz j hp0 wd hj, ← hM.len]
  unfold pickIx
  exact List.filter_congr fun i hi => hpk i (List.mem_range.1 hi)
 have hparts : partsT L got 0 (f - 0 + j) L.length = mirPart sz got j := by
  unfold partsT
  rw [hix, mirPart_eq (by rw [hgl, hM.len]; exact hle), List.map_map]
  rfl
 have hown : ownT L f 0 (f - 0 + j) L.length = true := by
  unfold ownT
  rw [Bool.or_eq_true]
  refine .inr (List.any_eq_true.2 ⟨j * sz, List.mem_range.2 (by rw [hM.len]; omega), ?_⟩)
  have hl : j * sz < L.length := by rw [hM.len]; omega
  rw [hpk _ hl, hM.dev _ hl, Nat.mul_div_cancel _ hp0]
  simp
 unfold refOneT mirOne
 rw [hown, hparts, hM.dev _ (show j * sz < L.length by rw [hM.len]; omega), Nat.mul_div_cancel _ hp0, if_neg (show ¬ (f - 0 + (j : Int) < f) by omega), show f - 0 + (j : Int) = f + j by omega]
 cases hasE (mirPart sz got j) <;> rfl
theorem ref_par (h : cMay gs secs pg pa size = true) (hk : (grAt gs pg).1 = 1) :
 refTo (colsOf gs secs pg pa size) got (gFirst gs secs pg) 1 (1 + (grAt gs pg).2.toNat) = parT (colsOf gs secs pg pa size) got := by
 have hP := parL_of h (by rw [hk]; decide)
 have hdv := fun i (hi : i < (colsOf gs secs pg pa size).length) => dev_in h hi
 have hf := first_nn h
 have hsz : 0 < size.toNat := by
  obtain ⟨_, hz1, _⟩ := cMay_true h
  omega
 have hw : 0 ≤ (grAt gs pg).2 := by
  obtain ⟨hhas, _⟩ := cMay_true h
  obtain ⟨g, x, rfl, _, _, _, _, hx, hgx, ho⟩ := gHas_true hhas
  rw [hgx]
  have := gOne_true ho
  omega
 obtain ⟨wd, hwd⟩ := Int.eq_ofNat_of_zero_le hw
 rw [hwd] at hdv ⊢
 rw [Int.toNat_natCast]
 generalize colsOf gs secs pg pa size = L at *
 generalize size.toNat = sz at *
 generalize gFirst gs secs pg = f at *
 clear hwd hw h hk
 have hix : ∀ d, pickIx L 1 d L.length = dataIx L L.length := fun d => by
  unfold pickIx dataIx
  refine List.filter_congr fun i _ => ?_
  unfold pickB
  rw [show ((1 : Int) == 0) = false from rfl, Bool.false_and, Bool.or_false]
 have hct : ∀ d, partsT L got 1 d L.length = (dataIx L L.length).map (colTxt L got d) := fun d => by
  unfold partsT
  rw [hix]
  refine List.map_congr_left fun i _ => ?_
  unfold cT colTxt
  rw [show ((1 : Int) == 1) = true from rfl, Bool.true_and]
 have hne : dataIx L L.length ≠ [] := fun e => by
  have := hP.cnt
  have hl : 0 < L.length := by
   rcases Nat.eq_zero_or_pos L.length with h0 | h0
   · rw [List.length_eq_zero_iff.1 h0] at this
     simp at this
     omega
   · exact h0
  obtain ⟨p, h1, h2, _⟩ := hP.dat 0 hl
  have := dataIx_mem.2 ⟨h1, h2⟩
  rw [e] at this
  cases this
 have hone : ∀ d, parOne L got d = if hasE ((dataIx L L.length).map (colTxt L got d)) then none else some (d, ((dataIx L L.length).map (colTxt L got d)).flatten) := fun d => by
  unfold parOne withS
  simp only
  cases hE : hasE ((dataIx L L.length).map (colTxt L got d)) with
  | true => rfl
  | false =>
   simp only [Bool.false_eq_true, if_false]
   rw [hasE_cons (by simpa using hne) hE]
   rfl
 have hfirst : refOneT L got f 1 (f - 1 + (0 : Nat)) = parOne L got (-1) := by
  have e : (dataIx L L.length).map (colTxt L got (f - 1 + (0 : Nat))) = (dataIx L L.length).map (colTxt L got (-1)) := by
   refine List.map_congr_left fun i hi => ?_
   have h1 := hdv i (dataIx_mem.1 hi).1
   unfold colTxt
   rw [beq_eq_false_iff_ne.2 (show (L.getD i (0, 0, false, 0)).1 ≠ f - 1 + ((0 : Nat) : Int) by omega), beq_eq_false_iff_ne.2 (show (L.getD i (0, 0, false, 0)).1 ≠ -1 by omega)]
  unfold refOneT
  rw [hct, e, hone, if_pos (show f - 1 + ((0 : Nat) : Int) < f by omega)]
  have : ownT L f 1 (f - 1 + ((0 : Nat) : Int)) L.length = true := by unfold ownT; rw [decide_eq_true (show f - 1 + ((0 : Nat) : Int) < f by omega)]; rfl
  rw [this]
  cases hasE ((dataIx L L.length).map (colTxt L got (-1))) <;> rfl
 have hdevs : ((List.range wd).map fun j : Nat => f + (j : Int)).filter (fun d => ownT L f 1 d L.length) = devsL (L.filter fun c => !c.2.2.1) := by
  refine rising_same ?_ (devsL_spec _).1 fun x => ?_
  · refine List.Pairwise.filter _ ?_
    rw [List.pairwise_map]
    exact List.pairwise_lt_range.imp fun h => by omega
  · have hm := @mem_devs L x
    unfold parDevs at hm
    rw [List.mem_cons] at hm
    rw [List.mem_filter, List.mem_map]
    unfold ownT
    rw [Bool.or_eq_true, List.any_eq_true]
    constructor
    · rintro ⟨⟨j, hj, rfl⟩, h | ⟨i, hi, hb⟩⟩
      · have := of_decide_eq_true h
        omega
      · have hil := List.mem_range.1 hi
        rw [Bool.and_eq_true] at hb
        have h1 : (L.getD i (0, 0, false, 0)).2.2.1 = false := by
         have := hb.1
         unfold pickB at this
         simpa using this
        rcases hm.2 (.inr ⟨i, hil, h1, by simpa using hb.2⟩) with e | e
        · omega
        · exact e
    · intro hx
      rcases hm.1 (.inr hx) with e | ⟨i, hi, h1, rfl⟩
      · obtain ⟨c, hc, hcx⟩ := ((devsL_spec _).2 x).1 hx
        obtain ⟨h1, h2⟩ := List.mem_filter.1 hc
        obtain ⟨i, hi⟩ := List.mem_iff_getElem?.1 h1
        have hil := (List.getElem?_eq_some_iff.1 hi).1
        rw [colD_in hil] at hi
        cases hi
        have := hdv i hil
        omega
      · have h2 := hdv i hi
        refine ⟨⟨((L.getD i (0, 0, false, 0)).1 - f).toNat, List.mem_range.2 (by omega), by omega⟩, .inr ⟨i, List.mem_range.2 hi, ?_⟩⟩
        unfold pickB
        rw [h1, beq_self_eq_true, show ((1 : Int) == 0) = false from rfl]
        rfl
 unfold refTo parT parDevs
 rw [show List.range (1 + wd) = 0 :: (List.range wd).map (1 + ·) by rw [List.range_add]; rfl, List.filterMap_cons, List.filterMap_cons, hfirst]
 have hrest : ((List.range wd).map (1 + ·)).filterMap (fun j : Nat => refOneT L got f 1 (f - 1 + (j : Int))) = (devsL (L.filter fun c => !c.2.2.1)).filterMap (parOne L got) := by
  rw [← hdevs, List.filterMap_filter, List.filterMap_map, List.filterMap_map]
  refine fm_congr fun j hj => ?_
  simp only [Function.comp_apply]
  rw [show f - 1 + ((1 + j : Nat) : Int) = f + j by omega]
  unfold refOneT
  rw [hct, hone, if_neg (show ¬ (f + (j : Int) < f) by omega)]
  cases ownT L f 1 (f + j) L.length <;> cases hasE ((dataIx L L.length).map (colTxt L got (f + j))) <;> rfl
 rw [hrest]
theorem ref_tries (h : fitsB gs secs pg pa size got = true) : refTo (colsOf gs secs pg pa size) got (gFirst gs secs pg) (grAt gs pg).1 ((grAt gs pg).1 + (grAt gs pg).2).toNat = triesL gs secs pg pa size got := by
 obtain ⟨hm, hgl, _⟩ := fits_parts h
 have hk : (grAt gs pg).1 = 0 ∨ (grAt gs pg).1 = 1 := by
  obtain ⟨hhas, _⟩ := cMay_true hm
  obtain ⟨g, x, rfl, _, _, _, _, hx, hgx, ho⟩ := gHas_true hhas
  rw [hgx]
  rcases gOne_true ho with h | h
  · exact .inl h.1
  · exact .inr h.1
 unfold triesL
 rw [if_pos h]
 rcases hk with hk | hk
 · have := ref_mir (got := got) hm hk hgl
   rw [hk, Int.zero_add, this]
   rfl
 · have := ref_par (got := got) hm hk
   have hw : 0 ≤ (grAt gs pg).2 := by
    obtain ⟨hhas, _⟩ := cMay_true hm
    obtain ⟨g, x, rfl, _, _, _, _, hx, hgx, ho⟩ := gHas_true hhas
    rw [hgx]
    have := gOne_true ho
    omega
   rw [hk, show (1 + (grAt gs pg).2).toNat = 1 + (grAt gs pg).2.toNat by omega, this]
   rfl
end
end Go.Proofs.YtbhkbcpljakmjaaGreat
