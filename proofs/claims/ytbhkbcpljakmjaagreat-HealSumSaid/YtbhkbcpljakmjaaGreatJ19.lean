/-
  Plain words on the devices of columns: sorted, each once.
  What columns may come to, in plain words; slices.Contains of the empty text.
  Columns made again: what was encoded comes back. No program stands here.
  What encoded columns come to when some are spoilt or missing. No program stands here.
-/
import Derived.Lib.RowBridge
import Derived.Test.YtbhkbcpljakmjaaGreatJ13
import Derived.Test.YtbhkbcpljakmjaaGreatJ18
import Derived.Test.YtbhkbcpljakmjaaGreatJ14
namespace Go.Proofs.YtbhkbcpljakmjaaGreat
set_option linter.unusedVariables false
set_option linter.unusedSimpArgs false
open Go.RowKit

theorem compact_inc (d : Array Int) (hs : ∀ i j, i ≤ j → j < d.size → d[i]! ≤ d[j]!) : ∀ m, m ≤ d.size →
    (Lib.compactUpTo d m).Pairwise (· < ·) ∧ ∀ x, x ∈ Lib.compactUpTo d m ↔ ∃ j, j < m ∧ d[j]! = x
  | 0, _ => by simp [Lib.compactUpTo]
  | m + 1, hm => by
    obtain ⟨h1, h2⟩ := compact_inc d hs m (by omega)
    rw [Lib.compactUpTo_succ]
    cases hk : Lib.keeps d m with
    | false =>
      have hk' : m ≠ 0 ∧ d[m]! = d[m - 1]! := by simpa [Lib.keeps] using hk
      simp only [Bool.false_eq_true, if_false, List.append_nil]
      refine ⟨h1, fun x => ?_⟩
      rw [h2]
      constructor
      · rintro ⟨j, hj, e⟩; exact ⟨j, by omega, e⟩
      · rintro ⟨j, hj, e⟩
        by_cases hjm : j = m
        · subst hjm; exact ⟨j - 1, by omega, by rw [← hk'.2]; exact e⟩
        · exact ⟨j, by omega, e⟩
    | true =>
      have hk' : m = 0 ∨ d[m]! ≠ d[m - 1]! := by simpa [Lib.keeps] using hk
      simp only [if_true]
      constructor
      · rw [List.pairwise_append]
        refine ⟨h1, List.pairwise_singleton _ _, fun x hx y hy => ?_⟩
        obtain ⟨j, hj, rfl⟩ := (h2 x).1 hx
        have : y = d[m]! := by simpa using hy
        subst this
        rcases hk' with h0 | h0
        · omega
        · have a1 := hs j (m - 1) (by omega) (by omega)
          have a2 := hs (m - 1) m (by omega) (by omega)
          omega
      · intro x
        rw [List.mem_append, h2, List.mem_singleton]
        constructor
        · rintro (⟨j, hj, e⟩ | e)
          · exact ⟨j, by omega, e⟩
          · exact ⟨m, by omega, e.symm⟩
        · rintro ⟨j, hj, e⟩
          by_cases hjm : j = m
          · subst hjm; exact .inr e.symm
          · exact .inl ⟨j, by omega, e⟩

def leInt (x y : Int) : Bool := decide (x ≤ y)
/-- The devices of columns. -/
def devsL (L : List Col) : List Int := Lib.compact ((L.map (·.1)).mergeSort fun x y => decide (x ≤ y))
theorem devsL_spec (L : List Col) : (devsL L).Pairwise (· < ·) ∧ ∀ x, x ∈ devsL L ↔ ∃ c ∈ L, c.1 = x := by
  have hp : ((L.map (·.1)).mergeSort fun x y => decide (x ≤ y)).Pairwise (fun x y => decide (x ≤ y) = true) :=
    List.pairwise_mergeSort (fun a b c h1 h2 => by simp at *; omega) (fun a b => by simp; omega) _
  have hm : ∀ x, x ∈ ((L.map (·.1)).mergeSort fun x y => decide (x ≤ y)) ↔ ∃ c ∈ L, c.1 = x := fun x => by rw [List.mem_mergeSort, List.mem_map]
  unfold devsL Lib.compact
  generalize ((L.map (·.1)).mergeSort fun x y => decide (x ≤ y)) = zs at *
  have hs : ∀ i j, i ≤ j → j < zs.toArray.size → zs.toArray[i]! ≤ zs.toArray[j]! := by
    intro i j hij hj
    have hj' : j < zs.length := by simpa using hj
    rw [getElem!_pos _ i (by simp; omega), getElem!_pos _ j hj]
    rcases Nat.lt_or_ge i j with h | h
    · have := List.pairwise_iff_getElem.1 hp i j (by omega) hj' h
      simpa using this
    · obtain rfl : i = j := by omega
      exact Int.le_refl _
  obtain ⟨h1, h2⟩ := compact_inc zs.toArray hs zs.length (by simp)
  refine ⟨h1, fun x => ?_⟩
  rw [h2, ← hm]
  constructor
  · rintro ⟨j, hj, e⟩
    rw [getElem!_pos _ j (by simpa using hj)] at e
    rw [← e]
    simp
  · intro hx
    obtain ⟨j, hj, e⟩ := List.getElem_of_mem hx
    exact ⟨j, hj, by rw [getElem!_pos _ j (by simpa using hj)]; simpa using e⟩
theorem devsL_len (L : List Col) : (devsL L).length ≤ L.length := by
  unfold devsL
  have := Lib.compact_length_le ((L.map (·.1)).mergeSort fun x y => decide (x ≤ y))
  simpa using this
end Go.Proofs.YtbhkbcpljakmjaaGreat

namespace Go.Proofs.YtbhkbcpljakmjaaGreat
set_option linter.unusedVariables false
set_option linter.unusedSimpArgs false
open Go.RowKit

/-- One of them is missing. -/
def hasE (l : List (List UInt8)) : Bool := l.any fun s => s.isEmpty
def againIx (L : List Col) (at_ k : Nat) : List Nat := (List.range k).filter fun i => ((L.getD i (0, 0, false, 0)).2.2.2 == (L.getD at_ (0, 0, false, 0)).2.2.2) && i != at_
/-- A column made again by the others of its row. -/
def againS (L : List Col) (got : List (List UInt8)) (at_ : Nat) : List UInt8 :=
  let P := (againIx L at_ L.length).map fun i => got.getD i []
  if hasE P then [] else makeS P
def dataIx (L : List Col) (k : Nat) : List Nat := (List.range k).filter fun i => !(L.getD i (0, 0, false, 0)).2.2.1
def colTxt (L : List Col) (got : List (List UInt8)) (dev : Int) (i : Nat) : List UInt8 := if (L.getD i (0, 0, false, 0)).1 == dev then againS L got i else got.getD i []
/-- The data columns, those of a device made again. -/
def withS (L : List Col) (got : List (List UInt8)) (dev : Int) : List UInt8 :=
  let P := (dataIx L L.length).map (colTxt L got dev)
  if hasE P then [] else P.flatten
def parDevs (L : List Col) : List Int := -1 :: devsL (L.filter fun c => !c.2.2.1)
def parOne (L : List Col) (got : List (List UInt8)) (d : Int) : Option (Int × List UInt8) := if (withS L got d).isEmpty then none else some (d, withS L got d)
def parT (L : List Col) (got : List (List UInt8)) : List (Int × List UInt8) := (parDevs L).filterMap (parOne L got)
def mirPart (sz : Nat) (got : List (List UInt8)) (j : Nat) : List (List UInt8) := (got.drop (j * sz)).take sz
def mirOne (L : List Col) (sz : Nat) (got : List (List UInt8)) (j : Nat) : Option (Int × List UInt8) := if hasE (mirPart sz got j) then none else some ((L.getD (j * sz) (0, 0, false, 0)).1, (mirPart sz got j).flatten)
def mirT (L : List Col) (sz : Nat) (got : List (List UInt8)) (k : Nat) : List (Int × List UInt8) := (List.range k).filterMap (mirOne L sz got)
/-- All tries. -/
def triesL (gs : List (Int × Int)) (secs pg pa : Int) (size : Int) (got : List (List UInt8)) : List (Int × List UInt8) :=
  if fitsB gs secs pg pa size got then
    (if (grAt gs pg).1 == 0 then mirT (colsOf gs secs pg pa size) size.toNat got (grAt gs pg).2.toNat else parT (colsOf gs secs pg pa size) got)
  else []
theorem hasE_snoc (l : List (List UInt8)) (s : List UInt8) : hasE (l ++ [s]) = (hasE l || s.isEmpty) := by simp [hasE]
theorem againIx_step (L : List Col) (at_ k : Nat) : againIx L at_ (k + 1) = againIx L at_ k ++ if ((L.getD k (0, 0, false, 0)).2.2.2 == (L.getD at_ (0, 0, false, 0)).2.2.2) && k != at_ then [k] else [] := by
  unfold againIx
  rw [List.range_succ, List.filter_append]
  congr 1
  simp only [List.filter_cons, List.filter_nil]
theorem dataIx_step (L : List Col) (k : Nat) : dataIx L (k + 1) = dataIx L k ++ if !(L.getD k (0, 0, false, 0)).2.2.1 then [k] else [] := by
  unfold dataIx
  rw [List.range_succ, List.filter_append]
  congr 1
  simp only [List.filter_cons, List.filter_nil]
theorem againIx_len (L : List Col) (at_ k : Nat) : (againIx L at_ k).length ≤ k := by
  unfold againIx
  exact Nat.le_trans (List.length_filter_le _ _) (by simp)
theorem dataIx_len (L : List Col) (k : Nat) : (dataIx L k).length ≤ k := by
  unfold dataIx
  exact Nat.le_trans (List.length_filter_le _ _) (by simp)
theorem mirT_step (L : List Col) (sz : Nat) (got : List (List UInt8)) (k : Nat) : mirT L sz got (k + 1) = mirT L sz got k ++ (mirOne L sz got k).toList := by
  unfold mirT
  rw [List.range_succ, List.filterMap_append]
  congr 1
theorem mirT_len (L : List Col) (sz : Nat) (got : List (List UInt8)) (k : Nat) : (mirT L sz got k).length ≤ k := by
  unfold mirT
  exact Nat.le_trans (List.length_filterMap_le _ _) (by simp)
/-- Is one of them empty? The first. -/
def firstE (l : List (List UInt8)) : Int := match l.findIdx? (fun s => s.isEmpty) with
  | some i => i
  | none => -1
theorem firstE_hit {l : List (List UInt8)} {k : Nat} {s : List UInt8} (hs : l[k]? = some s) (he : s.isEmpty = true) (h : ∀ j, j < k → ∀ x, l[j]? = some x → x.isEmpty = false) : firstE l = k := by
  unfold firstE
  have : l.findIdx? (fun s => s.isEmpty) = some k := by
    rw [List.findIdx?_eq_some_iff_getElem]
    refine ⟨(List.getElem?_eq_some_iff.1 hs).1, ?_, fun j hj => ?_⟩
    · rw [(List.getElem?_eq_some_iff.1 hs).2]; exact he
    · have := h j hj _ (List.getElem?_eq_getElem (by have := (List.getElem?_eq_some_iff.1 hs).1; omega))
      simpa using this
  rw [this]
theorem firstE_miss {l : List (List UInt8)} (h : ∀ j, j < l.length → ∀ x, l[j]? = some x → x.isEmpty = false) : firstE l = -1 := by
  unfold firstE
  have : l.findIdx? (fun s => s.isEmpty) = none := by
    rw [List.findIdx?_eq_none_iff]
    intro x hx
    obtain ⟨j, hj⟩ := List.mem_iff_getElem?.1 hx
    exact h j (List.getElem?_eq_some_iff.1 hj).1 x hj
  rw [this]
theorem firstE_has (l : List (List UInt8)) : decide (0 ≤ firstE l) = hasE l := by
  unfold firstE hasE
  cases h : l.findIdx? (fun s => s.isEmpty) with
  | none =>
    rw [List.findIdx?_eq_none_iff] at h
    have : l.any (fun s => s.isEmpty) = false := by rw [List.any_eq_false]; intro x hx; rw [h x hx]; simp
    rw [this]; rfl
  | some i =>
    rw [List.findIdx?_eq_some_iff_getElem] at h
    obtain ⟨h1, h2, _⟩ := h
    have : l.any (fun s => s.isEmpty) = true := by rw [List.any_eq_true]; exact ⟨_, List.getElem_mem h1, h2⟩
    rw [this]
    exact decide_eq_true (by show (0 : Int) ≤ (i : Int); omega)
set_option maxRecDepth 20000 in
theorem idxE_any {w : World} {ss : List (List UInt8)} {sv : Value} (h1 : SlAt w sv ss.length (strC ss)) (f1 : ss.length ≤ 1000000) :
    Calls Tryz.prog 91 #[sv, str []] w fun e w' => e = .returned (.int .i64 (firstE ss)) ∧ Below w.heap.size w w' := by
  obtain ⟨A, c1, rfl⟩ := h1.form
  have H1 := Lib.hid h1
  clear h1
  go_enter Tryz.func91, Tryz.ntmps91
  go_wp2_with fail
  go_loopw [5, 8] (fun _ t wr => ∃ k : Nat, k ≤ ss.length ∧ t = .int .i64 k ∧ Below w.heap.size w wr ∧ ∀ j, j < k → ∀ x, ss[j]? = some x → x.isEmpty = false) (fun _ t _ => ss.length - (RowKit.intOf t).toNat)
  case atStart => exact ⟨0, Nat.zero_le _, rfl, Below.refl _ _, fun j hj => absurd hj (Nat.not_lt_zero _)⟩
  case round =>
    obtain ⟨k, hk, rfl, hb, hal⟩ := hrel
    have HB := Lib.hid hb
    have HAL := Lib.hid hal
    by_cases hlt : k < ss.length
    · obtain ⟨b, oo, rfl, hbl, hcell⟩ := H1.out.cells (by omega)
      obtain ⟨x, hx⟩ : ∃ x, ss[k]? = some x := ⟨_, List.getElem?_eq_getElem hlt⟩
      have f0 : wr.cell? ⟨b, oo + k, none⟩ = some (str x) := (World.cell?_of_block (hb.block b hbl)).trans (hcell _ _ (strC_at hx))
      have hdc : decide (k < ss.length) = true := decide_eq_true hlt
      have HLT := Lib.hid hlt
      have HXX := Lib.hid hx
      clear hcell hx hb hal hbl
      by_cases hxe : x = []
      · subst hxe
        go_wp2_with fail
        go_ret
        exact ⟨ret_int (firstE_hit HXX.out rfl HAL.out).symm, HB.out⟩
      · have hx1 : x.isEmpty = false := by simpa using hxe
        have hx2 : ([] == x) = false := beq_eq_false_iff_ne.2 (fun h => hxe h.symm)
        have HE := Lib.hid hx1
        go_wp2_with fail
        go_roundw
        case rel =>
          refine ⟨k + 1, HLT.out, by go_num, HB.out, fun j hj y hy => ?_⟩
          by_cases e : j < k
          · exact HAL.out j e y hy
          · obtain rfl : j = k := by omega
            have h2 := HXX.out
            rw [hy] at h2
            cases h2
            exact HE.out
        case measure => have := HLT.out; simp [RowKit.intOf]; omega
    · obtain rfl : k = ss.length := by omega
      have hdc : decide ((ss.length : Int) < ss.length) = false := decide_eq_false (by omega)
      clear hb hal
      go_wp2_with fail
      go_ret
      exact ⟨ret_int (firstE_miss HAL.out).symm, HB.out⟩
theorem conE_any {w : World} {ss : List (List UInt8)} {sv : Value} (h1 : SlAt w sv ss.length (strC ss)) (f1 : ss.length ≤ 1000000) :
    Calls Tryz.prog 64 #[sv, str []] w fun e w' => e = .returned (.bool (hasE ss)) ∧ Below w.heap.size w w' := by
  have H := Lib.hid (idxE_any h1 f1)
  clear h1
  go_enter Tryz.func64, Tryz.ntmps64
  go_wp2_with fail
  refine H.out.mono ?_
  rintro e w1 ⟨rfl, hb1⟩
  go_wp2_with fail
  go_ret
  exact ⟨ret_bool (firstE_has _), hb1⟩
end Go.Proofs.YtbhkbcpljakmjaaGreat

namespace Go.Proofs.YtbhkbcpljakmjaaGreat
set_option linter.unusedVariables false
set_option linter.unusedSimpArgs false

theorem xorL_comm (a b : List UInt8) : xorL a b = xorL b a := by
  unfold xorL
  rw [List.zipWith_comm]
  simp [UInt8.xor_comm]
theorem xorL_assoc : ∀ a b c : List UInt8, xorL (xorL a b) c = xorL a (xorL b c)
  | [], _, _ => by simp [xorL]
  | _ :: _, [], _ => by simp [xorL]
  | _ :: _, _ :: _, [] => by simp [xorL]
  | x :: a, y :: b, z :: c => by
    have := xorL_assoc a b c
    simp only [xorL, List.zipWith_cons_cons] at this ⊢
    rw [this, UInt8.xor_assoc]
theorem xorL_self : ∀ a : List UInt8, xorL a a = List.replicate a.length 0
  | [] => rfl
  | x :: a => by
    have := xorL_self a
    simp only [xorL, List.zipWith_cons_cons, List.length_cons, List.replicate_succ] at this ⊢
    rw [this, UInt8.xor_self]
theorem xorL_zero : ∀ a : List UInt8, xorL a (List.replicate a.length 0) = a
  | [] => rfl
  | x :: a => by
    have := xorL_zero a
    simp only [xorL, List.zipWith_cons_cons, List.length_cons, List.replicate_succ] at this ⊢
    rw [this, UInt8.xor_zero]
theorem fold_xor (x : List UInt8) : ∀ (l : List (List UInt8)) (a : List UInt8), l.foldl xorL (xorL x a) = xorL x (l.foldl xorL a)
  | [], _ => rfl
  | y :: l, a => by rw [List.foldl_cons, List.foldl_cons, xorL_assoc, fold_xor x l]
theorem parN_cons (n : Nat) (x : List UInt8) (l : List (List UInt8)) : parN n (x :: l) = xorL x (parN n l) := by
  unfold parN
  rw [List.foldl_cons, xorL_comm, fold_xor]
theorem parN_perm {n : Nat} {l m : List (List UInt8)} (h : l.Perm m) : parN n l = parN n m := by
  induction h with
  | nil => rfl
  | cons x _ ih => rw [parN_cons, parN_cons, ih]
  | swap x y l => rw [parN_cons, parN_cons, parN_cons, parN_cons, ← xorL_assoc, ← xorL_assoc, xorL_comm y x]
  | trans _ _ h1 h2 => rw [h1, h2]
theorem xor_back {a b : List UInt8} {n : Nat} (ha : a.length = n) (hb : b.length = n) (h : xorL a b = List.replicate n 0) : b = a := by
  have : xorL a (xorL a b) = b := by rw [← xorL_assoc, xorL_self, xorL_comm, ha, ← hb]; exact xorL_zero b
  rw [← this, h, ← ha]
  exact xorL_zero a
/-- The places of a row. -/
def rowAll (L : List Col) (r : Int) : List Nat := (List.range L.length).filter fun i => (L.getD i (0, 0, false, 0)).2.2.2 == r
theorem rowAll_mem {L : List Col} {r : Int} {i : Nat} : i ∈ rowAll L r ↔ i < L.length ∧ (L.getD i (0, 0, false, 0)).2.2.2 = r := by
  unfold rowAll
  simp
theorem rowAll_perm {L : List Col} {i : Nat} (hi : i < L.length) : (rowAll L (L.getD i (0, 0, false, 0)).2.2.2).Perm (i :: againIx L i L.length) := by
  have hm : i ∈ rowAll L (L.getD i (0, 0, false, 0)).2.2.2 := rowAll_mem.2 ⟨hi, rfl⟩
  have hnd : (rowAll L (L.getD i (0, 0, false, 0)).2.2.2).Nodup := List.nodup_range.filter _
  have h2 := List.perm_cons_erase hm
  rw [hnd.erase_eq_filter] at h2
  have e : (rowAll L (L.getD i (0, 0, false, 0)).2.2.2).filter (fun x => x != i) = againIx L i L.length := by
    unfold rowAll againIx
    rw [List.filter_filter]
    apply List.filter_congr
    intro x _
    exact Bool.and_comm _ _
  rwa [e] at h2
theorem qpar_count (first wide at_ : Int) (k : Nat) : ((parTo first wide at_ k).filter (fun x => !x.2.2.1)).length = k := by
  induction k with
  | zero => rfl
  | succ k ih =>
    rw [parTo]
    split <;> simp [List.filter_append, pcol, ih]
theorem par_idx : ∀ w ∈ List.range 9, ∀ s ∈ List.range 5, 3 ≤ w → 0 < s → ((List.range 9).all fun i => (((parTo 0 w 0 s).map (·.2.2))[i]?).isNone || (((List.range 9).filter fun j => match ((parTo 0 w 0 s).map (·.2.2))[j]?, ((parTo 0 w 0 s).map (·.2.2))[i]? with
    | some x, some y => x.1 && x.2 == y.2
    | _, _ => false).length == 1)) = true := by decide +kernel
/-- What a Parity's columns are. -/
structure ParL (L : List Col) (sz : Nat) : Prop where
  len : L.length ≤ 8
  one : ∀ i, i < L.length → ∃ p, p < L.length ∧ (L.getD p (0, 0, false, 0)).2.2.1 = true ∧ (L.getD p (0, 0, false, 0)).2.2.2 = (L.getD i (0, 0, false, 0)).2.2.2 ∧ ∀ q, q < L.length → (L.getD q (0, 0, false, 0)).2.2.1 = true → (L.getD q (0, 0, false, 0)).2.2.2 = (L.getD i (0, 0, false, 0)).2.2.2 → q = p
  dat : ∀ i, i < L.length → ∃ p, p < L.length ∧ (L.getD p (0, 0, false, 0)).2.2.1 = false ∧ (L.getD p (0, 0, false, 0)).2.2.2 = (L.getD i (0, 0, false, 0)).2.2.2
  cnt : (L.filter fun c => !c.2.2.1).length = sz
theorem colD_in {L : List Col} {i : Nat} (h : i < L.length) : L[i]? = some (L.getD i (0, 0, false, 0)) := by
  rw [List.getD_eq_getElem?_getD, List.getElem?_eq_getElem h]
  rfl
theorem parL_of {gs : List (Int × Int)} {secs pg pa size : Int} (h : cMay gs secs pg pa size = true) (hk : (grAt gs pg).1 ≠ 0) : ParL (colsOf gs secs pg pa size) size.toNat := by
  have hd := fun {c : Col} => data_shape h (c := c)
  obtain ⟨hhas, hz1, hz2, hp1, hp2, _⟩ := cMay_true h
  obtain ⟨sz, rfl⟩ := Int.eq_ofNat_of_zero_le (show 0 ≤ size by omega)
  obtain ⟨g, x, rfl, _, hl4, hs1, hs2, hx, hgx, ho⟩ := gHas_true hhas
  obtain ⟨kd, wd⟩ := x
  rw [hgx] at hk
  have ho' := gOne_true ho
  simp only at ho' hk
  obtain ⟨w, rfl⟩ := Int.eq_ofNat_of_zero_le (show 0 ≤ wd by omega)
  rcases ho' with ⟨rfl, _, _⟩ | ⟨rfl, h1, h2⟩
  · exact absurd rfl hk
  have hL : colsOf gs secs g pa sz = parTo (gFirst gs secs g) w pa sz := by unfold colsOf; rw [hgx]; rfl
  rw [hL] at hd ⊢
  rw [Int.toNat_natCast]
  have hlen := parTo_len (gFirst gs secs g) w pa sz
  have hsh := parTo_shape (gFirst gs secs g) w pa sz
  have key := par_idx w (by simp; omega) sz (by simp; omega) (by omega) (by omega)
  rw [← hsh] at key
  generalize hM : parTo (gFirst gs secs g) w pa sz = L at *
  have hat : ∀ j, j < L.length → (L.map (·.2.2))[j]? = some (L.getD j (0, 0, false, 0)).2.2 := fun j hj => by rw [List.getElem?_map, colD_in hj]; rfl
  have hone : ∀ i, i < L.length → ∃ p, p < L.length ∧ (L.getD p (0, 0, false, 0)).2.2.1 = true ∧ (L.getD p (0, 0, false, 0)).2.2.2 = (L.getD i (0, 0, false, 0)).2.2.2 ∧ ∀ q, q < L.length → (L.getD q (0, 0, false, 0)).2.2.1 = true → (L.getD q (0, 0, false, 0)).2.2.2 = (L.getD i (0, 0, false, 0)).2.2.2 → q = p := by
    intro i hi
    have k1 := List.all_eq_true.1 key i (List.mem_range.2 (by omega))
    rw [hat i hi, Option.isNone_some, Bool.false_or, beq_iff_eq, List.length_eq_one_iff] at k1
    obtain ⟨p, hp⟩ := k1
    have hmem : ∀ q, q < L.length → ((L.getD q (0, 0, false, 0)).2.2.1 = true ∧ (L.getD q (0, 0, false, 0)).2.2.2 = (L.getD i (0, 0, false, 0)).2.2.2 ↔ q = p) := by
      intro q hq
      have : q ∈ [p] ↔ q = p := List.mem_singleton
      rw [← this, ← hp, List.mem_filter, hat q hq]
      simp [show q < 9 by omega]
    have hpin : p ∈ [p] := List.mem_singleton.2 rfl
    rw [← hp] at hpin
    have hpl : p < L.length := by
      have h3 := (List.mem_filter.1 hpin).2
      by_cases h4 : p < L.length
      · exact h4
      · rw [List.getElem?_eq_none (by rw [List.length_map]; omega)] at h3
        cases h3
    have h5 := (hmem p hpl).2 rfl
    exact ⟨p, hpl, h5.1, h5.2, fun q hq h6 h7 => (hmem q hq).1 ⟨h6, h7⟩⟩
  refine ⟨by omega, hone, fun i hi => ?_, by rw [← hM]; exact qpar_count _ _ _ _⟩
  obtain ⟨p, hp, h3, h4, _⟩ := hone i hi
  obtain ⟨e, he, h5, h6⟩ := hd (c := L.getD p (0, 0, false, 0)) (List.mem_of_getElem? (colD_in hp)) h3
  obtain ⟨j, hj⟩ := List.mem_iff_getElem?.1 he
  have hjl := (List.getElem?_eq_some_iff.1 hj).1
  rw [colD_in hjl] at hj
  cases hj
  exact ⟨j, hjl, h5, by rw [h6, h4]⟩
/-- Of columns that are encoded each is what the others of its row are together. -/
structure EncL (L : List Col) (E : List (List UInt8)) : Prop where
  len : E.length = L.length
  all64 : ∀ i, i < L.length → (E.getD i []).length = 64
  par : ∀ i, i < L.length → (L.getD i (0, 0, false, 0)).2.2.1 = true → E.getD i [] = makeS ((rowIx L (L.getD i (0, 0, false, 0)).2.2.2).map fun j => E.getD j [])
theorem makeS_64 {l : List (List UInt8)} (hne : l ≠ []) (h : ∀ x ∈ l, x.length = 64) : makeS l = parN 64 l := by
  have hh : (l.headD []).length = 64 := by
    cases l with
    | nil => exact absurd rfl hne
    | cons a r => exact h a List.mem_cons_self
  have he : evenB l = true := by
    unfold evenB
    rw [List.all_eq_true]
    intro x hx
    rw [h x hx, hh]
    exact beq_self_eq_true _
  unfold makeS
  rw [if_pos ⟨hne, he⟩, hh]
theorem rowIx_eq {L : List Col} {p : Nat} {sz : Nat} (hL : ParL L sz) (hp : p < L.length) (hpar : (L.getD p (0, 0, false, 0)).2.2.1 = true) : rowIx L (L.getD p (0, 0, false, 0)).2.2.2 = againIx L p L.length := by
  obtain ⟨p', _, _, _, hu⟩ := hL.one p hp
  have hpp := hu p hp hpar rfl
  unfold rowIx againIx
  apply List.filter_congr
  intro i hi
  have hi := List.mem_range.1 hi
  rw [colD_in hi]
  simp only
  by_cases hr : (L.getD i (0, 0, false, 0)).2.2.2 = (L.getD p (0, 0, false, 0)).2.2.2
  · rw [hr]
    cases hc : (L.getD i (0, 0, false, 0)).2.2.1 with
    | true =>
      have := hu i hi hc hr
      simp [this, hpp]
    | false =>
      have : i ≠ p := fun e => by rw [e, hpar] at hc; cases hc
      simp [this]
  · rw [decide_eq_false hr, beq_eq_false_iff_ne.2 hr]
    rfl
theorem againIx_mem {L : List Col} {i j : Nat} : j ∈ againIx L i L.length ↔ j < L.length ∧ (L.getD j (0, 0, false, 0)).2.2.2 = (L.getD i (0, 0, false, 0)).2.2.2 ∧ j ≠ i := by
  unfold againIx
  simp
theorem again_ne {L : List Col} {sz i : Nat} (hL : ParL L sz) (hi : i < L.length) : againIx L i L.length ≠ [] := by
  intro he
  obtain ⟨p, h1, h2, h3, _⟩ := hL.one i hi
  obtain ⟨q, h4, h5, h6⟩ := hL.dat i hi
  have hno : ∀ j, j < L.length → (L.getD j (0, 0, false, 0)).2.2.2 = (L.getD i (0, 0, false, 0)).2.2.2 → j = i := fun j hj hr => by
    refine Decidable.byContradiction fun hne => ?_
    have := againIx_mem.2 ⟨hj, hr, hne⟩
    rw [he] at this
    cases this
  have e1 := hno p h1 h3
  have e2 := hno q h4 h6
  rw [e1] at h2
  rw [e2, h2] at h5
  cases h5
theorem row_zero {L : List Col} {E : List (List UInt8)} {sz i : Nat} (hL : ParL L sz) (hE : EncL L E) (hi : i < L.length) : parN 64 ((rowAll L (L.getD i (0, 0, false, 0)).2.2.2).map fun j => E.getD j []) = List.replicate 64 0 := by
  obtain ⟨p, h1, h2, h3, _⟩ := hL.one i hi
  rw [← h3]
  rw [parN_perm ((rowAll_perm h1).map _), List.map_cons, parN_cons]
  have e := hE.par p h1 h2
  rw [rowIx_eq hL h1 h2, makeS_64 (by simp only [ne_eq, List.map_eq_nil_iff]; exact again_ne hL h1) (fun x hx => by
    obtain ⟨j, hj, rfl⟩ := List.mem_map.1 hx
    exact hE.all64 j (againIx_mem.1 hj).1)] at e
  rw [← e, xorL_self, hE.all64 p h1]
theorem again_back {L : List Col} {E got : List (List UInt8)} {sz i : Nat} (hL : ParL L sz) (hE : EncL L E) (hi : i < L.length)
    (hg : ∀ j, j < L.length → (L.getD j (0, 0, false, 0)).2.2.2 = (L.getD i (0, 0, false, 0)).2.2.2 → j ≠ i → got.getD j [] = E.getD j []) : againS L got i = E.getD i [] := by
  have hmap : ((againIx L i L.length).map fun j => got.getD j []) = (againIx L i L.length).map fun j => E.getD j [] := by
    apply List.map_congr_left
    intro j hj
    obtain ⟨a, b, c⟩ := againIx_mem.1 hj
    exact hg j a b c
  have h64 : ∀ x ∈ (againIx L i L.length).map fun j => E.getD j [], x.length = 64 := fun x hx => by
    obtain ⟨j, hj, rfl⟩ := List.mem_map.1 hx
    exact hE.all64 j (againIx_mem.1 hj).1
  have hne : ((againIx L i L.length).map fun j => E.getD j []) ≠ [] := by simp only [ne_eq, List.map_eq_nil_iff]; exact again_ne hL hi
  have hno : hasE ((againIx L i L.length).map fun j => E.getD j []) = false := by
    unfold hasE
    rw [List.any_eq_false]
    intro x hx hxe
    have := h64 x hx
    rw [List.isEmpty_iff.1 hxe] at this
    cases this
  unfold againS
  simp only
  rw [hmap, hno, makeS_64 hne h64]
  simp only [Bool.false_eq_true, if_false]
  have hz := row_zero hL hE hi
  rw [parN_perm ((rowAll_perm hi).map _), List.map_cons, parN_cons] at hz
  exact xor_back (hE.all64 i hi) (parN_len h64) hz
/-- Where one of a row's others is missing, nothing is made again. -/
theorem again_none {L : List Col} {got : List (List UInt8)} {i j : Nat} (hj : j < L.length) (hr : (L.getD j (0, 0, false, 0)).2.2.2 = (L.getD i (0, 0, false, 0)).2.2.2) (hne : j ≠ i) (he : got.getD j [] = []) : againS L got i = [] := by
  have : hasE ((againIx L i L.length).map fun j => got.getD j []) = true := by
    unfold hasE
    rw [List.any_eq_true]
    exact ⟨[], List.mem_map.2 ⟨j, againIx_mem.2 ⟨hj, hr, hne⟩, he⟩, rfl⟩
  unfold againS
  simp only
  rw [this, if_pos rfl]
theorem again_some {L : List Col} {got : List (List UInt8)} {i : Nat} (h : againS L got i ≠ []) : ∀ j, j < L.length → (L.getD j (0, 0, false, 0)).2.2.2 = (L.getD i (0, 0, false, 0)).2.2.2 → j ≠ i → got.getD j [] ≠ [] :=
  fun _ hj hr hne he => h (again_none hj hr hne he)
end Go.Proofs.YtbhkbcpljakmjaaGreat

namespace Go.Proofs.YtbhkbcpljakmjaaGreat
set_option linter.unusedVariables false
set_option linter.unusedSimpArgs false

theorem dataIx_cnt {L : List Col} : ∀ {k : Nat}, k ≤ L.length → (dataIx L k).map (dataCnt L) = List.range (dataCnt L k)
  | 0, _ => rfl
  | k + 1, hk => by
    have hc := colD_in (L := L) (i := k) (by omega)
    rw [dataIx_step, List.map_append, dataIx_cnt (by omega), dataCnt_succ hc]
    cases (L.getD k (0, 0, false, 0)).2.2.1
    · simp [List.range_succ]
    · simp
theorem dataIx_mem {L : List Col} {i : Nat} : i ∈ dataIx L L.length ↔ i < L.length ∧ (L.getD i (0, 0, false, 0)).2.2.1 = false := by
  unfold dataIx
  simp
theorem secs_to (s : List UInt8) : ∀ n, ((List.range n).map (secAt s)).flatten = s.take (n * 64)
  | 0 => by simp
  | n + 1 => by
    rw [List.range_succ, List.map_append, List.flatten_append, secs_to s n, Nat.succ_mul, List.take_add]
    simp [secAt]
theorem secs_flat {s : List UInt8} (h : s.length % 64 = 0) : (secsL s).flatten = s := by
  unfold secsL
  rw [secs_to, List.take_of_length_le]
  unfold secN
  omega
theorem secOk_parts {s : List UInt8} (h : secOk s = true) : s ≠ [] ∧ s.length % 64 = 0 ∧ s.length ≤ 256 := by
  unfold secOk at h
  simpa using h
theorem secN_pos {s : List UInt8} (h : secOk s = true) : 0 < secN s := by
  obtain ⟨h1, h2, _⟩ := secOk_parts h
  have := List.length_pos_iff.2 h1
  unfold secN
  omega
section
variable {gs : List (Int × Int)} {secs pg pa : Int} {s : List UInt8}
theorem encL_get {L : List Col} (hL : ofList gs secs pg pa (secN s) = L) {i : Nat} (hi : i < L.length) : (encL gs secs pg pa s).getD i [] = outE L (secsL s) i := by
  unfold encL
  rw [hL, List.getD_eq_getElem?_getD, List.getElem?_map, List.getElem?_range hi]
  rfl
theorem ofList_may {size : Int} (h : cMay gs secs pg pa size = true) : ofList gs secs pg pa size = colsOf gs secs pg pa size := by unfold ofList; rw [if_pos h]
theorem enc_encL (h : cMay gs secs pg pa (secN s) = true) : EncL (colsOf gs secs pg pa (secN s)) (encL gs secs pg pa s) := by
  have hO := ofList_may h
  refine ⟨by rw [encL_len, hO], fun i hi => ?_, fun i hi hp => ?_⟩
  · refine encL_64 h _ ?_
    rw [List.getD_eq_getElem?_getD, List.getElem?_eq_getElem (by rw [encL_len, hO]; exact hi)]
    exact List.getElem_mem _
  · rw [encL_get hO hi, outE_par (colD_in hi) hp]
    congr 1
    apply List.map_congr_left
    intro j hj
    obtain ⟨c, hc, _, hd⟩ := rowIx_spec hj
    rw [encL_get hO (List.getElem?_eq_some_iff.1 hc).1, outE_data hc hd]
/-- A data column is a sector of the text. -/
theorem enc_data (h : cMay gs secs pg pa (secN s) = true) {i : Nat} (hi : i < (colsOf gs secs pg pa (secN s)).length) (hd : ((colsOf gs secs pg pa (secN s)).getD i (0, 0, false, 0)).2.2.1 = false) :
    (encL gs secs pg pa s).getD i [] = (secsL s).getD (dataCnt (colsOf gs secs pg pa (secN s)) i % secN s) [] := by
  rw [encL_get (ofList_may h) hi, outE_data (colD_in hi) hd, outD_data (colD_in hi) hd, secsL_len]
/-- The data columns of a Parity, one after the other, are the text. -/
theorem enc_text (h : cMay gs secs pg pa (secN s) = true) (hs : secOk s = true) (hk : (grAt gs pg).1 ≠ 0) :
    ((dataIx (colsOf gs secs pg pa (secN s)) (colsOf gs secs pg pa (secN s)).length).map fun i => (encL gs secs pg pa s).getD i []).flatten = s := by
  have hP := parL_of h hk
  have hm : ((dataIx (colsOf gs secs pg pa (secN s)) (colsOf gs secs pg pa (secN s)).length).map fun i => (encL gs secs pg pa s).getD i []) = ((dataIx (colsOf gs secs pg pa (secN s)) (colsOf gs secs pg pa (secN s)).length).map (dataCnt (colsOf gs secs pg pa (secN s)))).map fun j => (secsL s).getD (j % secN s) [] := by
    rw [List.map_map]
    apply List.map_congr_left
    intro i hi
    obtain ⟨h1, h2⟩ := dataIx_mem.1 hi
    exact enc_data h h1 h2
  have hc : dataCnt (colsOf gs secs pg pa (secN s)) (colsOf gs secs pg pa (secN s)).length = secN s := by
    unfold dataCnt
    rw [List.take_length, hP.cnt, Int.toNat_natCast]
  rw [hm, dataIx_cnt (Nat.le_refl _), hc]
  have : ((List.range (secN s)).map fun j => (secsL s).getD (j % secN s) []) = secsL s := by
    unfold secsL
    apply List.map_congr_left
    intro j hj
    have hj := List.mem_range.1 hj
    rw [Nat.mod_eq_of_lt hj, List.getD_eq_getElem?_getD, List.getElem?_map, List.getElem?_range hj]
    rfl
  rw [this, secs_flat (secOk_parts hs).2.1]
theorem withS_back {L : List Col} {E got : List (List UInt8)} {d : Int} (hE : EncL L E) (h : ∀ i, i < L.length → (L.getD i (0, 0, false, 0)).2.2.1 = false → colTxt L got d i = E.getD i []) :
    withS L got d = ((dataIx L L.length).map fun i => E.getD i []).flatten := by
  have hm : (dataIx L L.length).map (colTxt L got d) = (dataIx L L.length).map fun i => E.getD i [] := by
    apply List.map_congr_left
    intro i hi
    obtain ⟨h1, h2⟩ := dataIx_mem.1 hi
    exact h i h1 h2
  have hno : hasE ((dataIx L L.length).map fun i => E.getD i []) = false := by
    unfold hasE
    rw [List.any_eq_false]
    intro x hx hxe
    obtain ⟨i, hi, rfl⟩ := List.mem_map.1 hx
    have := hE.all64 i (dataIx_mem.1 hi).1
    rw [List.isEmpty_iff.1 hxe] at this
    cases this
  unfold withS
  simp only
  rw [hm, hno]
  rfl
theorem withS_some {L : List Col} {got : List (List UInt8)} {d : Int} (h : withS L got d ≠ []) : ∀ i, i < L.length → (L.getD i (0, 0, false, 0)).2.2.1 = false → colTxt L got d i ≠ [] := by
  intro i h1 h2 he
  apply h
  have : hasE ((dataIx L L.length).map (colTxt L got d)) = true := by
    unfold hasE
    rw [List.any_eq_true]
    exact ⟨[], List.mem_map.2 ⟨i, dataIx_mem.2 ⟨h1, h2⟩, he⟩, rfl⟩
  unfold withS
  simp only
  rw [this, if_pos rfl]
theorem row_devD (h : cMay gs secs pg pa (secN s) = true) {i j : Nat} (hi : i < (colsOf gs secs pg pa (secN s)).length) (hj : j < (colsOf gs secs pg pa (secN s)).length) (hne : j ≠ i)
    (hr : ((colsOf gs secs pg pa (secN s)).getD j (0, 0, false, 0)).2.2.2 = ((colsOf gs secs pg pa (secN s)).getD i (0, 0, false, 0)).2.2.2) : ((colsOf gs secs pg pa (secN s)).getD j (0, 0, false, 0)).1 ≠ ((colsOf gs secs pg pa (secN s)).getD i (0, 0, false, 0)).1 := by
  rcases Nat.lt_or_gt_of_ne hne with h1 | h1
  · exact row_devs h h1 (colD_in hj) (colD_in hi) hr
  · exact fun e => row_devs h h1 (colD_in hi) (colD_in hj) hr.symm e.symm
theorem dev_nn {size : Int} (h : cMay gs secs pg pa size = true) {i : Nat} (hi : i < (colsOf gs secs pg pa size).length) : 0 ≤ ((colsOf gs secs pg pa size).getD i (0, 0, false, 0)).1 := by
  obtain ⟨t, hl, _⟩ := cols_lie h (colD_in hi)
  exact (lies_in h hl).1
theorem mem_devs {L : List Col} {d : Int} : d ∈ parDevs L ↔ d = -1 ∨ ∃ i, i < L.length ∧ (L.getD i (0, 0, false, 0)).2.2.1 = false ∧ (L.getD i (0, 0, false, 0)).1 = d := by
  unfold parDevs
  rw [List.mem_cons, (devsL_spec _).2]
  refine or_congr Iff.rfl ⟨?_, ?_⟩
  · rintro ⟨c, hc, rfl⟩
    obtain ⟨h1, h2⟩ := List.mem_filter.1 hc
    obtain ⟨i, hi⟩ := List.mem_iff_getElem?.1 h1
    have hil := (List.getElem?_eq_some_iff.1 hi).1
    rw [colD_in hil] at hi
    cases hi
    exact ⟨i, hil, by simpa using h2, rfl⟩
  · rintro ⟨i, hi, h1, rfl⟩
    exact ⟨_, List.mem_filter.2 ⟨List.mem_of_getElem? (colD_in hi), by rw [h1]; rfl⟩, rfl⟩
/-- Where one device's columns alone are spoilt, the text is among a Parity's tries. -/
theorem par_one_back (h : cMay gs secs pg pa (secN s) = true) (hs : secOk s = true) (hk : (grAt gs pg).1 ≠ 0) {got : List (List UInt8)} {d : Int}
    (hg : ∀ i, i < (colsOf gs secs pg pa (secN s)).length → ((colsOf gs secs pg pa (secN s)).getD i (0, 0, false, 0)).1 ≠ d → got.getD i [] = (encL gs secs pg pa s).getD i []) : ∃ x ∈ parT (colsOf gs secs pg pa (secN s)) got, x.2 = s := by
  have hP := parL_of h hk
  have hE := enc_encL h
  have hT := enc_text h hs hk
  have hD := fun (i j : Nat) => row_devD h (i := i) (j := j)
  have hN := fun (i : Nat) => dev_nn h (i := i)
  generalize colsOf gs secs pg pa (secN s) = L at *
  generalize encL gs secs pg pa s = E at *
  have hsne := (secOk_parts hs).1
  have main : ∀ e, e ∈ parDevs L → withS L got e = s → ∃ x ∈ parT L got, x.2 = s := by
    intro e he hw
    refine ⟨(e, s), List.mem_filterMap.2 ⟨e, he, ?_⟩, rfl⟩
    unfold parOne
    rw [hw, if_neg (by simpa using hsne)]
  by_cases hdm : ∃ i, i < L.length ∧ (L.getD i (0, 0, false, 0)).2.2.1 = false ∧ (L.getD i (0, 0, false, 0)).1 = d
  · refine main d (mem_devs.2 (.inr hdm)) ?_
    rw [withS_back hE, hT]
    intro i hi hd
    unfold colTxt
    by_cases hid : (L.getD i (0, 0, false, 0)).1 = d
    · rw [if_pos (beq_iff_eq.2 hid)]
      refine again_back hP hE hi fun j hj hr hne => hg j hj ?_
      rw [← hid]
      exact hD i j hi hj hne hr
    · rw [if_neg (by simpa using hid)]
      exact hg i hi hid
  · refine main (-1) (mem_devs.2 (.inl rfl)) ?_
    rw [withS_back hE, hT]
    intro i hi hd
    unfold colTxt
    rw [if_neg (by have := hN i hi; rw [beq_iff_eq]; omega)]
    exact hg i hi fun e => hdm ⟨i, hi, hd, e⟩
/-- Where columns are as they were or missing, each of a Parity's tries is the text. -/
theorem par_all_back (h : cMay gs secs pg pa (secN s) = true) (hs : secOk s = true) (hk : (grAt gs pg).1 ≠ 0) {got : List (List UInt8)}
    (hg : ∀ i, i < (colsOf gs secs pg pa (secN s)).length → got.getD i [] = (encL gs secs pg pa s).getD i [] ∨ got.getD i [] = []) : ∀ x ∈ parT (colsOf gs secs pg pa (secN s)) got, x.2 = s := by
  have hP := parL_of h hk
  have hE := enc_encL h
  have hT := enc_text h hs hk
  generalize colsOf gs secs pg pa (secN s) = L at *
  generalize encL gs secs pg pa s = E at *
  intro x hx
  obtain ⟨d, _, hd⟩ := List.mem_filterMap.1 hx
  unfold parOne at hd
  split at hd
  · cases hd
  rename_i hne
  cases hd
  have hne : withS L got d ≠ [] := by simpa using hne
  have hsome := withS_some hne
  show withS L got d = s
  rw [withS_back hE, hT]
  intro i hi hdat
  have h1 := hsome i hi hdat
  unfold colTxt at h1 ⊢
  split
  · rename_i he
    rw [if_pos he] at h1
    exact again_back hP hE hi fun j hj hr hne' => (hg j hj).resolve_right (again_some h1 j hj hr hne')
  · rename_i he
    rw [if_neg he] at h1
    exact (hg i hi).resolve_right h1
/-- With two of a row missing there is no try. -/
theorem par_two_none {L : List Col} {sz : Nat} (hP : ParL L sz) {got : List (List UInt8)} {i j : Nat} (hi : i < L.length) (hj : j < L.length) (hne : i ≠ j)
    (hr : (L.getD j (0, 0, false, 0)).2.2.2 = (L.getD i (0, 0, false, 0)).2.2.2) (h1 : got.getD i [] = []) (h2 : got.getD j [] = []) : parT L got = [] := by
  have main : ∀ a b, a < L.length → b < L.length → a ≠ b → (L.getD b (0, 0, false, 0)).2.2.2 = (L.getD a (0, 0, false, 0)).2.2.2 → got.getD a [] = [] → got.getD b [] = [] → (L.getD a (0, 0, false, 0)).2.2.1 = false → parT L got = [] := by
    intro a b ha hb hab hrow ga gb hda
    unfold parT
    rw [List.filterMap_eq_nil_iff]
    intro d _
    unfold parOne
    rw [if_pos]
    rw [List.isEmpty_iff]
    refine Decidable.byContradiction fun hw => ?_
    refine withS_some hw a ha hda ?_
    unfold colTxt
    split
    · exact again_none hb hrow hab.symm gb
    · exact ga
  cases hdi : (L.getD i (0, 0, false, 0)).2.2.1 with
  | false => exact main i j hi hj hne hr h1 h2 hdi
  | true =>
    cases hdj : (L.getD j (0, 0, false, 0)).2.2.1 with
    | false => exact main j i hj hi hne.symm hr.symm h2 h1 hdj
    | true =>
      obtain ⟨p, _, _, _, hu⟩ := hP.one i hi
      exact absurd ((hu i hi hdi rfl).trans (hu j hj hdj hr).symm) hne
end
end Go.Proofs.YtbhkbcpljakmjaaGreat
