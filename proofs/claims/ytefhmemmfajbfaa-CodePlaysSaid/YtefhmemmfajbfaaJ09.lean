/-
  What columns may come to, in plain words; slices.Contains of the empty text.
  Contracts of package code: again.
  DERIVED: THE SHELF's CONTRACTS AT THIS DUMP, IN PLAIN WORDS (tools/lay-plain.mjs out of 'TryShelf.lean', which tools/lay-shelf.mjs wrote): THE SAME DECLARATIONS UNDER THE SAME NAMES: 'import', 'namespace', 'open', 'def', 'theorem' AND NOTHING ELSE: no command of the shelf's: FOR A HAND-IN. Each laying: the table of numbers ('.._ren') and one theorem, a field a fact of the dump's own or the kernel's comparison; each contract: ONE APPLICATION.
-/
import Derived.Test.YtefhmemmfajbfaaJ08
import Derived.Shelf.Strings.Builder1
import Derived.Shelf.Strings.Builder2
import Derived.Shelf.Strings.OnBuilder
import Derived.Shelf.Strings.BuilderF
import Derived.Test.YtefhmemmfajbfaaProg
namespace Go.Proofs.Ytefhmemmfajbfaa
set_option linter.unusedVariables false
set_option linter.unusedSimpArgs false
open Go.RowKit

/-- One of them is missing. -/
def hasE (l : List (List UInt8)) : Bool := l.any fun s => s.isEmpty
def againIx (L : List Col) (at_ k : Nat) : List Nat := (List.range k).filter fun i => ((L.getD i (0, 0, false, 0)).2.2.2 == (L.getD at_ (0, 0, false, 0)).2.2.2) && i != at_
/-- A column made again by the others of its row. -/
def againS (L : List Col) (got : List (List UInt8)) (at_ : Nat) : List UInt8 :=
  let P := (againIx L at_ L.length).map fun i => got.getD i []
  if hasE P then [] else makeS P
def dataIx (L : List Col) (k : Nat) : List Nat := (List.range k).filter fun i => !(L.getD i (0, 0, false, 0)).2.2.1
def colTxt (L : List Col) (got : List (List UInt8)) (dev : Int) (i : Nat) : List UInt8 := if (L.getD i (0, 0, false, 0)).1 == dev then againS L got i else got.getD i []
/-- The data columns, those of a device made again. -/
def withS (L : List Col) (got : List (List UInt8)) (dev : Int) : List UInt8 :=
  let P := (dataIx L L.length).map (colTxt L got dev)
  if hasE P then [] else P.flatten
def parDevs (L : List Col) : List Int := -1 :: devsL (L.filter fun c => !c.2.2.1)
def parOne (L : List Col) (got : List (List UInt8)) (d : Int) : Option (Int × List UInt8) := if (withS L got d).isEmpty then none else some (d, withS L got d)
def parT (L : List Col) (got : List (List UInt8)) : List (Int × List UInt8) := (parDevs L).filterMap (parOne L got)
def mirPart (sz : Nat) (got : List (List UInt8)) (j : Nat) : List (List UInt8) := (got.drop (j * sz)).take sz
def mirOne (L : List Col) (sz : Nat) (got : List (List UInt8)) (j : Nat) : Option (Int × List UInt8) := if hasE (mirPart sz got j) then none else some ((L.getD (j * sz) (0, 0, false, 0)).1, (mirPart sz got j).flatten)
def mirT (L : List Col) (sz : Nat) (got : List (List UInt8)) (k : Nat) : List (Int × List UInt8) := (List.range k).filterMap (mirOne L sz got)
/-- All tries. -/
def triesL (gs : List (Int × Int)) (secs pg pa : Int) (size : Int) (got : List (List UInt8)) : List (Int × List UInt8) :=
  if fitsB gs secs pg pa size got then
    (if (grAt gs pg).1 == 0 then mirT (colsOf gs secs pg pa size) size.toNat got (grAt gs pg).2.toNat else parT (colsOf gs secs pg pa size) got)
  else []
theorem hasE_snoc (l : List (List UInt8)) (s : List UInt8) : hasE (l ++ [s]) = (hasE l || s.isEmpty) := by simp [hasE]
theorem againIx_step (L : List Col) (at_ k : Nat) : againIx L at_ (k + 1) = againIx L at_ k ++ if ((L.getD k (0, 0, false, 0)).2.2.2 == (L.getD at_ (0, 0, false, 0)).2.2.2) && k != at_ then [k] else [] := by
  unfold againIx
  rw [List.range_succ, List.filter_append]
  congr 1
  simp only [List.filter_cons, List.filter_nil]
theorem dataIx_step (L : List Col) (k : Nat) : dataIx L (k + 1) = dataIx L k ++ if !(L.getD k (0, 0, false, 0)).2.2.1 then [k] else [] := by
  unfold dataIx
  rw [List.range_succ, List.filter_append]
  congr 1
  simp only [List.filter_cons, List.filter_nil]
theorem againIx_len (L : List Col) (at_ k : Nat) : (againIx L at_ k).length ≤ k := by
  unfold againIx
  exact Nat.le_trans (List.length_filter_le _ _) (by simp)
theorem dataIx_len (L : List Col) (k : Nat) : (dataIx L k).length ≤ k := by
  unfold dataIx
  exact Nat.le_trans (List.length_filter_le _ _) (by simp)
theorem mirT_step (L : List Col) (sz : Nat) (got : List (List UInt8)) (k : Nat) : mirT L sz got (k + 1) = mirT L sz got k ++ (mirOne L sz got k).toList := by
  unfold mirT
  rw [List.range_succ, List.filterMap_append]
  congr 1
theorem mirT_len (L : List Col) (sz : Nat) (got : List (List UInt8)) (k : Nat) : (mirT L sz got k).length ≤ k := by
  unfold mirT
  exact Nat.le_trans (List.length_filterMap_le _ _) (by simp)
/-- Is one of them empty? The first. -/
def firstE (l : List (List UInt8)) : Int := match l.findIdx? (fun s => s.isEmpty) with
  | some i => i
  | none => -1
theorem firstE_hit {l : List (List UInt8)} {k : Nat} {s : List UInt8} (hs : l[k]? = some s) (he : s.isEmpty = true) (h : ∀ j, j < k → ∀ x, l[j]? = some x → x.isEmpty = false) : firstE l = k := by
  unfold firstE
  have : l.findIdx? (fun s => s.isEmpty) = some k := by
    rw [List.findIdx?_eq_some_iff_getElem]
    refine ⟨(List.getElem?_eq_some_iff.1 hs).1, ?_, fun j hj => ?_⟩
    · rw [(List.getElem?_eq_some_iff.1 hs).2]; exact he
    · have := h j hj _ (List.getElem?_eq_getElem (by have := (List.getElem?_eq_some_iff.1 hs).1; omega))
      simpa using this
  rw [this]
theorem firstE_miss {l : List (List UInt8)} (h : ∀ j, j < l.length → ∀ x, l[j]? = some x → x.isEmpty = false) : firstE l = -1 := by
  unfold firstE
  have : l.findIdx? (fun s => s.isEmpty) = none := by
    rw [List.findIdx?_eq_none_iff]
    intro x hx
    obtain ⟨j, hj⟩ := List.mem_iff_getElem?.1 hx
    exact h j (List.getElem?_eq_some_iff.1 hj).1 x hj
  rw [this]
theorem firstE_has (l : List (List UInt8)) : decide (0 ≤ firstE l) = hasE l := by
  unfold firstE hasE
  cases h : l.findIdx? (fun s => s.isEmpty) with
  | none =>
    rw [List.findIdx?_eq_none_iff] at h
    have : l.any (fun s => s.isEmpty) = false := by rw [List.any_eq_false]; intro x hx; rw [h x hx]; simp
    rw [this]; rfl
  | some i =>
    rw [List.findIdx?_eq_some_iff_getElem] at h
    obtain ⟨h1, h2, _⟩ := h
    have : l.any (fun s => s.isEmpty) = true := by rw [List.any_eq_true]; exact ⟨_, List.getElem_mem h1, h2⟩
    rw [this]
    exact decide_eq_true (by show (0 : Int) ≤ (i : Int); omega)
set_option maxRecDepth 20000 in
theorem idxE_any {w : World} {ss : List (List UInt8)} {sv : Value} (h1 : SlAt w sv ss.length (strC ss)) (f1 : ss.length ≤ 1000000) :
    Calls Try.prog 54 #[sv, str []] w fun e w' => e = .returned (.int .i64 (firstE ss)) ∧ Below w.heap.size w w' := by
  obtain ⟨A, c1, rfl⟩ := h1.form
  have H1 := Lib.hid h1
  clear h1
  go_enter Try.func54, Try.ntmps54
  go_wp2_with fail
  go_loopw [5, 8] (fun _ t wr => ∃ k : Nat, k ≤ ss.length ∧ t = .int .i64 k ∧ Below w.heap.size w wr ∧ ∀ j, j < k → ∀ x, ss[j]? = some x → x.isEmpty = false) (fun _ t _ => ss.length - (RowKit.intOf t).toNat)
  case atStart => exact ⟨0, Nat.zero_le _, rfl, Below.refl _ _, fun j hj => absurd hj (Nat.not_lt_zero _)⟩
  case round =>
    obtain ⟨k, hk, rfl, hb, hal⟩ := hrel
    have HB := Lib.hid hb
    have HAL := Lib.hid hal
    by_cases hlt : k < ss.length
    · obtain ⟨b, oo, rfl, hbl, hcell⟩ := H1.out.cells (by omega)
      obtain ⟨x, hx⟩ : ∃ x, ss[k]? = some x := ⟨_, List.getElem?_eq_getElem hlt⟩
      have f0 : wr.cell? ⟨b, oo + k, none⟩ = some (str x) := (World.cell?_of_block (hb.block b hbl)).trans (hcell _ _ (strC_at hx))
      have hdc : decide (k < ss.length) = true := decide_eq_true hlt
      have HLT := Lib.hid hlt
      have HXX := Lib.hid hx
      clear hcell hx hb hal hbl
      by_cases hxe : x = []
      · subst hxe
        go_wp2_with fail
        go_ret
        exact ⟨ret_int (firstE_hit HXX.out rfl HAL.out).symm, HB.out⟩
      · have hx1 : x.isEmpty = false := by simpa using hxe
        have hx2 : ([] == x) = false := beq_eq_false_iff_ne.2 (fun h => hxe h.symm)
        have HE := Lib.hid hx1
        go_wp2_with fail
        go_roundw
        case rel =>
          refine ⟨k + 1, HLT.out, by go_num, HB.out, fun j hj y hy => ?_⟩
          by_cases e : j < k
          · exact HAL.out j e y hy
          · obtain rfl : j = k := by omega
            have h2 := HXX.out
            rw [hy] at h2
            cases h2
            exact HE.out
        case measure => have := HLT.out; simp [RowKit.intOf]; omega
    · obtain rfl : k = ss.length := by omega
      have hdc : decide ((ss.length : Int) < ss.length) = false := decide_eq_false (by omega)
      clear hb hal
      go_wp2_with fail
      go_ret
      exact ⟨ret_int (firstE_miss HAL.out).symm, HB.out⟩
theorem conE_any {w : World} {ss : List (List UInt8)} {sv : Value} (h1 : SlAt w sv ss.length (strC ss)) (f1 : ss.length ≤ 1000000) :
    Calls Try.prog 44 #[sv, str []] w fun e w' => e = .returned (.bool (hasE ss)) ∧ Below w.heap.size w w' := by
  have H := Lib.hid (idxE_any h1 f1)
  clear h1
  go_enter Try.func44, Try.ntmps44
  go_wp2_with fail
  refine H.out.mono ?_
  rintro e w1 ⟨rfl, hb1⟩
  go_wp2_with fail
  go_ret
  exact ⟨ret_bool (firstE_has _), hb1⟩
end Go.Proofs.Ytefhmemmfajbfaa

namespace Go.Proofs.Ytefhmemmfajbfaa
set_option linter.unusedVariables false
set_option linter.unusedSimpArgs false
open Go.RowKit

theorem getD_at {L : List Col} {k : Nat} {x : Col} (h : L[k]? = some x) : L.getD k (0, 0, false, 0) = x := by rw [List.getD_eq_getElem?_getD, h]; rfl
theorem gotD_at {L : List (List UInt8)} {k : Nat} {x : List UInt8} (h : L[k]? = some x) : L.getD k [] = x := by rw [List.getD_eq_getElem?_getD, h]; rfl
set_option maxRecDepth 20000 in
set_option maxHeartbeats 1000000 in
theorem again_any {w : World} {L : List Col} {got : List (List UInt8)} {lv gv : Value} (hl : SlAt w lv L.length (colsCells L)) (hg : SlAt w gv got.length (strC got)) (hgl : got.length = L.length) (hL64 : L.length ≤ 64) (h64 : ∀ s ∈ got, s.length ≤ 64) {at_ : Nat} (hat : at_ < L.length) :
    Calls Try.prog 61 #[lv, gv, .int .i64 at_] w fun e w' => e = .returned (str (againS L got at_)) ∧ Below w.heap.size w w' := by
  obtain ⟨Al, cl, rfl⟩ := hl.form
  obtain ⟨Ag, cg, rfl⟩ := hg.form
  rw [hgl] at hg ⊢
  have H := Lib.hid hl
  have HG := Lib.hid hg
  have HGL := Lib.hid hgl
  have H64 := Lib.hid h64
  obtain ⟨ya, hya⟩ : ∃ y, L[at_]? = some y := ⟨_, List.getElem?_eq_getElem hat⟩
  have HYA := Lib.hid hya
  clear hl hg hgl h64 hya
  obtain ⟨i0, hi, hz0, hz1, hz2⟩ := info_parts Try.infoStr
  go_enter Try.func61, Try.ntmps61
  go_wp2_with fail
  go_loopw [7, 8, 9, 14] (fun v _ _ t wr => ∃ k : Nat, k ≤ L.length ∧ t = .int .i64 k ∧ wr.ownsRow w.heap.size 9 1 v (againIx L at_ k).length (strC ((againIx L at_ k).map fun i => got.getD i [])) ∧ Below w.heap.size w wr) (fun _ _ _ t _ => L.length - (RowKit.intOf t).toNat)
  case atStart => exact ⟨0, Nat.zero_le _, rfl, World.ownsRow_nil _ _ _ _, Below.refl _ _⟩
  case round =>
    obtain ⟨k, hk, rfl, hown, hb⟩ := hrel
    have HB := Lib.hid hb
    have HOWN := Lib.hid hown
    clear hb hown
    by_cases hlt : k < L.length
    · obtain ⟨b, o, rfl, hbl, hcell⟩ := H.out.cells (by omega)
      obtain ⟨x, hx⟩ : ∃ x, L[k]? = some x := ⟨_, List.getElem?_eq_getElem hlt⟩
      obtain ⟨q0, q1, q2, q3⟩ := colsCells_at hx
      have hcl : ∀ j u, (colsCells L)[j]? = some u → wr.cell? ⟨b, o + j, none⟩ = some u := fun j u hu => (World.cell?_of_block (HB.out.block b hbl)).trans (hcell j u hu)
      have f0 : wr.cell? ⟨b, o + k * 4, none⟩ = some (.int .i64 x.1) := hcl _ _ q0
      have f1 : wr.cell? ⟨b, o + k * 4 + 1, none⟩ = some (.int .i64 x.2.1) := hcl _ _ q1
      have f2 : wr.cell? ⟨b, o + k * 4 + 2, none⟩ = some (.bool x.2.2.1) := hcl _ _ q2
      have f3 : wr.cell? ⟨b, o + k * 4 + 3, none⟩ = some (.int .i64 x.2.2.2) := hcl _ _ q3
      have hdc : decide (k < L.length) = true := decide_eq_true hlt
      have HLT := Lib.hid hlt
      have HX := Lib.hid hx
      have hi44 : (Try.prog.info? 40).map (·.size) = some (#[.int .i64 x.1, .int .i64 x.2.1, .bool x.2.2.1, .int .i64 x.2.2.2] : Array Value).size := by kernel_rfl
      have h1c : (#[.int .i64 x.1, .int .i64 x.2.1, .bool x.2.2.1, .int .i64 x.2.2.2] : Array Value).all (·.oneCell') = true := by kernel_rfl
      have Z2 : Blk (wr.alloc (.cells colZ 40)) wr.heap.size 40 colZ := Blk.new _ _ _
      have hth : (wr.alloc (.cells colZ 40)).there wr.heap.size 0 (#[.int .i64 x.1, .int .i64 x.2.1, .bool x.2.2.1, .int .i64 x.2.2.2] : Array Value).size := Z2.there (Nat.le_refl _)
      obtain ⟨w2, hw2⟩ : ∃ y, (wr.alloc (.cells colZ 40)).setCells wr.heap.size 0 (#[.int .i64 x.1, .int .i64 x.2.1, .bool x.2.2.1, .int .i64 x.2.2.2] : Array Value).toList = y := ⟨_, rfl⟩
      have X2 : Blk w2 wr.heap.size 40 #[.int .i64 x.1, .int .i64 x.2.1, .bool x.2.2.1, .int .i64 x.2.2.2] := by rw [← hw2]; exact Z2.putAll _ rfl
      have hb2 : Below wr.heap.size wr w2 := by rw [← hw2]; exact below_sets _ _ (keep_alloc (Below.refl _ _) _) (Nat.le_refl _)
      have hs2 : w2.heap.size = wr.heap.size + 1 := by rw [← hw2, sets_size', World.size_alloc]
      have HW2 := Lib.hid hw2
      have HX2 := Lib.hid X2
      have HK2 := Lib.hid hb2
      have HS2 := Lib.hid hs2
      have e2 : w2.cell? ⟨wr.heap.size, 2, none⟩ = some (.bool x.2.2.1) := X2.at_ rfl
      have e3 : w2.cell? ⟨wr.heap.size, 3, none⟩ = some (.int .i64 x.2.2.2) := X2.at_ rfl
      clear q0 q1 q2 q3 hcl hcell hx hbl hw2 X2 hb2 hs2 Z2
      have HD2B := Lib.hid (HB.out.trans (HK2.out.mono HB.out.size))
      have HOW2 := Lib.hid (ownsRow_same HOWN.out (fun b hb => HK2.out.block b (HOWN.out.lt b hb).2))
      obtain ⟨q0, q1, q2, q3⟩ := colsCells_at HYA.out
      obtain ⟨b1, o1, e1, hl1, hc1⟩ := H.out.cells (by omega)
      cases e1
      have fy : w2.cell? ⟨b, o + at_ * 4 + 3, none⟩ = some (.int .i64 ya.2.2.2) := keep_cell HD2B.out (hc1 _ _ q3) hl1
      have e3 : w2.cell? ⟨wr.heap.size, 3, none⟩ = some (.int .i64 x.2.2.2) := HX2.out.at_ rfl
      have hla : at_ < L.length := hat
      have hstep := againIx_step L at_ k
      rw [getD_at HX.out, getD_at HYA.out] at hstep
      have HST := Lib.hid hstep
      clear q0 q1 q2 hc1 hstep
      repeat' (first
        | (((with_reducible refine wpList_store_mid ?a1 40 (.tmp 9) (.tmp 18) ?a2 wr.heap.size 0 #[.int .i64 x.1, .int .i64 x.2.1, .bool x.2.2.1, .int .i64 x.2.2.2] ?a3 ?a4 hth hi44 h1c ?_); (case a1 => rfl); (case a2 => rfl); (case a3 => rfl); (case a4 => rfl); simp only [Act.put, List.setIfInBounds_toArray, List.set_cons_zero, List.set_cons_succ]; rw [HW2.out]))
        | go_values
        | go_skip
        | go_guarded
        | ((fail_if_success (with_reducible refine drawn_mark ?_))
           first
             | go_step
             | go_upon
             | go_back
             | (simp only [Int.not_lt, Int.not_le] at *; go_simp)
             | (go_values <;> (try go_simp))
             | (go_ite <;> go_prune <;> (try go_simp))
             | (split <;> (first | (rename_i hx; exact (hx _ rfl).elim) | go_prune))))
      obtain ⟨C, hCd, hCw, hCB, hCK, hCD⟩ := cls_below w2
      have g3 : ∀ W, C W → W.cell? ⟨wr.heap.size, 3, none⟩ = some (.int .i64 x.2.2.2) := fun W h => keep_cell (hCB W h) e3 HX2.out.lt
      have gy : ∀ W, C W → W.cell? ⟨b, o + at_ * 4 + 3, none⟩ = some (.int .i64 ya.2.2.2) := fun W h => keep_cell (hCB W h) fy (Nat.lt_of_lt_of_le hl1 HD2B.out.size)
      cases hrow : (x.2.2.2 == ya.2.2.2) with
      | false =>
        have HT : Hid (againIx L at_ (k + 1) = againIx L at_ k) := Lib.hid (by rw [HST.out, hrow]; simp)
        go_wp2_with fail
        refine wp_region_cls C (by kernel_rfl) (by kernel_rfl) hCd ?_
        repeat (first
          | go_big_quiet_skip
          | (go_big_quiet_want
             go_big_quiet_op
             first
               | go_big_quiet_on
               | (apply Exists.intro
                  refine ⟨fun W hW => ?_, ?_⟩
                  · first
                      | exact rfl
                      | exact ⟨rfl, rfl⟩
                      | (have e0 := g3 W hW; have e1 := gy W hW; simp only [e0, e1, Result.andThen_ok]; done)
                      | (have e0 := g3 W hW; have e1 := gy W hW; simp only [e0, e1, Result.andThen_ok]; first | exact ⟨trivial, rfl⟩ | exact rfl | exact ⟨rfl, rfl⟩)
                      | (skip)
                  go_big_quiet_on)))
        refine wpQuiet_nil ?_
        intro wz hwz
        have HBZ := Lib.hid (hCB wz hwz)
        clear g3 gy hCd hCB hwz hCw hCK hCD e2 e3 fy hi44 h1c hth f0 f1 f2 f3 hrow
        go_wp2_with fail
        go_roundw
        case rel => exact ⟨k + 1, HLT.out, by go_num, by rw [HT.out]; exact ownsRow_same HOW2.out (fun b hb => HBZ.out.block b (HOW2.out.lt b hb).2), HD2B.out.trans (HBZ.out.mono HD2B.out.size)⟩
        case measure => have := HLT.out; simp [RowKit.intOf]; omega
      | true =>
        by_cases hka : k = at_
        · have HT : Hid (againIx L at_ (k + 1) = againIx L at_ k) := Lib.hid (by rw [HST.out, hka]; simp)
          have hkb : ((k : Int) != at_) = false := by rw [bne_eq_false_iff_eq]; omega
          clear hka
          go_wp2_with fail
          refine wp_region_cls C (by kernel_rfl) (by kernel_rfl) hCd ?_
          repeat (first
            | go_big_quiet_skip
            | (go_big_quiet_want
               go_big_quiet_op
               first
                 | go_big_quiet_on
                 | (apply Exists.intro
                    refine ⟨fun W hW => ?_, ?_⟩
                    · first
                        | exact rfl
                        | exact ⟨rfl, rfl⟩
                        | (have e0 := g3 W hW; have e1 := gy W hW; simp only [e0, e1, Result.andThen_ok]; done)
                        | (have e0 := g3 W hW; have e1 := gy W hW; simp only [e0, e1, Result.andThen_ok]; first | exact ⟨trivial, rfl⟩ | exact rfl | exact ⟨rfl, rfl⟩)
                        | (skip)
                    go_big_quiet_on)))
          refine wpQuiet_nil ?_
          intro wz hwz
          have HBZ := Lib.hid (hCB wz hwz)
          clear g3 gy hCd hCB hwz hCw hCK hCD e2 e3 fy hi44 h1c hth f0 f1 f2 f3 hrow
          go_wp2_with fail
          go_roundw
          case rel => exact ⟨k + 1, HLT.out, by go_num, by rw [HT.out]; exact ownsRow_same HOW2.out (fun b hb => HBZ.out.block b (HOW2.out.lt b hb).2), HD2B.out.trans (HBZ.out.mono HD2B.out.size)⟩
          case measure => have := HLT.out; simp [RowKit.intOf]; omega
        · have HT : Hid (againIx L at_ (k + 1) = againIx L at_ k ++ [k]) := Lib.hid (by rw [HST.out, hrow]; simp [hka])
          have hkb : ((k : Int) != at_) = true := by rw [bne_iff_ne]; omega
          obtain ⟨s, hs⟩ : ∃ s, got[k]? = some s := ⟨_, List.getElem?_eq_getElem (by rw [HGL.out]; exact hlt)⟩
          obtain ⟨b2, o2, rfl, hl2, hc2⟩ := HG.out.cells (by omega)
          have HGS := Lib.hid (hc2 k (str s) (strC_at hs))
          have HSS := Lib.hid (gotD_at hs)
          have HL2 := Lib.hid hl2
          have hal := againIx_len L at_ k
          have hkg := hlt
          clear hka hs hc2 hl2
          go_wp2_with fail
          refine wp_region_cls C (by kernel_rfl) (by kernel_rfl) hCd ?_
          repeat (first
            | go_big_quiet_skip
            | (go_big_quiet_want
               go_big_quiet_op
               first
                 | go_big_quiet_on
                 | (apply Exists.intro
                    refine ⟨fun W hW => ?_, ?_⟩
                    · first
                        | exact rfl
                        | exact ⟨rfl, rfl⟩
                        | (have e0 := g3 W hW; have e1 := gy W hW; simp only [e0, e1, Result.andThen_ok]; done)
                        | (have e0 := g3 W hW; have e1 := gy W hW; simp only [e0, e1, Result.andThen_ok]; first | exact ⟨trivial, rfl⟩ | exact rfl | exact ⟨rfl, rfl⟩)
                        | (skip)
                    go_big_quiet_on)))
          refine wpQuiet_nil ?_
          intro wz hwz
          have HBZ := Lib.hid (HD2B.out.trans ((hCB wz hwz).mono HD2B.out.size))
          have HOZ := Lib.hid (ownsRow_same HOW2.out (fun b hb => (hCB wz hwz).block b (HOW2.out.lt b hb).2))
          have gs := keep_cell HBZ.out HGS.out HL2.out
          obtain ⟨R, hR⟩ : ∃ R, againIx L at_ k = R := ⟨_, rfl⟩
          rw [hR] at HOZ HT hal
          clear g3 gy hCd hCB hwz hCw hCK hCD e2 e3 fy hi44 h1c hth f0 f1 f2 f3 hrow hR HOWN HOW2
          go_wp2_with (at_builtin; refine wpList_append_own _ rfl _ _ 27 rfl w.heap.size 9 i0 _ 1 16 Try.underlying27 hi hz0 hz1 hz2 rfl (by decide) _ _ _ rfl (HOZ.out.alloc _) ⟨wz.heap.size, 0, none⟩ 1 1 [str s] rfl rfl ?c1 ?c2 (by unfold maxLen; omega) (by omega) ?c5 ?_)
          try (case c1 => exact one_new' _ _ _)
          case c2 => first | rfl | (intro u hu; simp at hu; subst hu; rfl)
          case c5 => have := HBZ.out.size; simp; omega
          intro v' w5 hown' hgrow _
          have hown5 : w5.ownsRow w.heap.size 9 1 v' (againIx L at_ (k + 1)).length (strC ((againIx L at_ (k + 1)).map fun i => got.getD i [])) := by
            rw [HT.out, List.length_append, List.map_append, List.map_cons, List.map_nil, HSS.out, strC_snoc]
            exact hown'
          have hb5 : Below w.heap.size w w5 := (HBZ.out.alloc HBZ.out.size _).grown hgrow (by have := HBZ.out.size; simp; omega) (fun k hk => (HOZ.out.lt k hk).1)
          have HO5 := Lib.hid hown5
          have HB5 := Lib.hid hb5
          clear hown' hgrow hown5 hb5 gs
          go_wp2_with fail
          go_roundw
          case rel => exact ⟨k + 1, HLT.out, by go_num, HO5.out, HB5.out⟩
          case measure => have := HLT.out; simp [RowKit.intOf]; omega
    · obtain rfl : k = L.length := by omega
      have hdc : decide ((L.length : Int) < L.length) = false := decide_eq_false (by omega)
      obtain ⟨P, hP⟩ : ∃ P, P = (againIx L at_ L.length).map fun i => got.getD i [] := ⟨_, rfl⟩
      have hso := slAt_own HOWN.out
      have hPl : (againIx L at_ L.length).length = P.length := by rw [hP, List.length_map]
      rw [← hP, hPl] at hso
      have hPn : P.length ≤ 64 := by rw [← hPl]; exact Nat.le_trans (againIx_len _ _ _) hL64
      have hP64 : (P.headD []).length ≤ 64 := by
        cases hq : P with
        | nil => exact Nat.zero_le _
        | cons a r =>
          have hm : a ∈ (againIx L at_ L.length).map fun i => got.getD i [] := by rw [← hP, hq]; exact List.mem_cons_self
          obtain ⟨i, _, hi⟩ := List.mem_map.1 hm
          show a.length ≤ 64
          rw [← hi, List.getD_eq_getElem?_getD]
          cases hgi : got[i]? with
          | none => exact Nat.zero_le _
          | some u => exact H64.out u (List.mem_of_getElem? hgi)
      have HCE := Lib.hid (conE_any hso (by omega))
      have HRES : Hid (againS L got at_ = if hasE P then [] else makeS P) := Lib.hid (by unfold againS; rw [hP])
      have HSO := Lib.hid hso
      have HP64 := Lib.hid hP64
      obtain ⟨Ap, cp, rfl⟩ := hso.form
      clear hso hP hPl hP64 HOWN
      go_wp2_with fail
      refine HCE.out.mono ?_
      rintro e w3 ⟨rfl, hb3⟩
      have HB3 := Lib.hid (keep_below hb3 HB.out)
      have HM := Lib.hid (parMake_any (HSO.out.below hb3) (by have := HP64.out; omega) (by omega))
      clear hb3
      cases hE : hasE P with
      | true =>
        rw [hE] at HRES
        clear hE
        go_wp2_with fail
        go_ret
        rw [HRES.out]
        exact ⟨rfl, HB3.out⟩
      | false =>
        rw [hE] at HRES
        clear hE
        go_wp2_with fail
        refine HM.out.mono ?_
        rintro e w4 ⟨rfl, hb4⟩
        have HB4 := Lib.hid (keep_below hb4 HB3.out)
        clear hb4
        go_wp2_with fail
        go_ret
        rw [HRES.out]
        exact ⟨rfl, HB4.out⟩
end Go.Proofs.Ytefhmemmfajbfaa

namespace Go.Proofs
open Go.Shelf
def Try.lays156_ren : Go.Shelf.Ren := ⟨fun | 156 => 45 | 165 => 55 | 166 => 56 | 169 => 57 | 240 => 65 | 241 => 66 | 276 => 70 | 277 => 71 | n => n, fun | 31 => 27 | 9 => 9 | 3 => 3 | 4 => 4 | 0 => 0 | 20 => 20 | 72 => 90 | 76 => 94 | 70 => 88 | 37 => 45 | 75 => 93 | 127 => 102 | 164 => 107 | 5 => 5 | 80 => 96 | n => n, fun | n => n⟩
theorem Try.lays156 : Go.Proofs.Lays.n156 Try.prog Try.lays156_ren := {
  mixed := by kernel_rfl
  f156 := Try.func45.trans (congrArg some (by kernel_rfl))
  f165 := Try.func55.trans (congrArg some (by kernel_rfl))
  f166 := Try.func56.trans (congrArg some (by kernel_rfl))
  f169 := Try.func57.trans (congrArg some (by kernel_rfl))
  f240 := Try.func65.trans (congrArg some (by kernel_rfl))
  f241 := Try.func66.trans (congrArg some (by kernel_rfl))
  f276 := Try.func70.trans (congrArg some (by kernel_rfl))
  f277 := Try.func71.trans (congrArg some (by kernel_rfl))
  t0 := Try.underlying0
  a0 := Try.isAgg0
  z0 := Try.sizeOf0
  v0 := Try.zeroValue0
  t3 := Try.underlying3
  a3 := Try.isAgg3
  z3 := Try.sizeOf3
  v3 := Try.zeroValue3
  t4 := Try.underlying4
  a4 := Try.isAgg4
  z4 := Try.sizeOf4
  v4 := Try.zeroValue4
  t9 := Try.underlying9
  a9 := Try.isAgg9
  z9 := Try.sizeOf9
  v9 := Try.zeroValue9
  t20 := Try.underlying20
  a20 := Try.isAgg20
  z20 := Try.sizeOf20
  v20 := Try.zeroValue20
  t31 := Try.underlying27
  a31 := Try.isAgg27
  z31 := Try.sizeOf27
  v31 := Try.zeroValue27
  t37 := Try.underlying45
  a37 := Try.isAgg45
  z37 := Try.sizeOf45
  v37 := Try.zeroValue45
  t70 := Try.underlying88
  a70 := Try.isAgg88
  z70 := Try.sizeOf88
  v70 := Try.zeroValue88
  t72 := Try.underlying90
  a72 := Try.isAgg90
  z72 := Try.sizeOf90
  v72 := Try.zeroValue90
  t75 := Try.underlying93
  a75 := Try.isAgg93
  z75 := Try.sizeOf93
  v75 := Try.zeroValue93
  t76 := Try.underlying94
  a76 := Try.isAgg94
  z76 := Try.sizeOf94
  v76 := Try.zeroValue94
  t127 := Try.underlying102
  a127 := Try.isAgg102
  z127 := Try.sizeOf102
  v127 := Try.zeroValue102
  t164 := Try.underlying107
  a164 := Try.isAgg107
  z164 := Try.sizeOf107
  v164 := Try.zeroValue107 }
theorem Try.Builder_Extra_156 : Builder.Extra Try.prog Try.lays156_ren := {
  sizeBuilder := by kernel_rfl
  liesBuilder := by kernel_rfl
  t5 := Try.underlying5
  a5 := Try.isAgg5
  z5 := Try.sizeOf5
  v5 := Try.zeroValue5
  infoByte := by kernel_rfl
  cellsByte := by kernel_rfl
  sizeByte := by kernel_rfl
  neB5 := by decide }
open Go.RowKit in
/-- No element: the empty string; the world is as it was. (Whatever the slice's address and capacity: a nil slice too.) (LAID: no walk: one application.) -/
theorem Try.strings_Join_none (a : Option Addr) (c : Nat) (sep : ByteArray) (w : World) :
    Calls Try.prog 45 #[.slice a 0 c, .string sep] w fun e w' => e = .returned (.string ⟨#[]⟩) ∧ w' = w := Any.strings_Join_none Try.lays156 Try.Builder_Extra_156 a c sep w
open Go.RowKit in
/-- strings.Join: "Join concatenates the elements of its first argument to create a single string. The separator string sep is placed between elements in the resulting string.": HOWEVER MANY ELEMENTS. Below the heap's end the world is as it was. (LAID: no walk: one application.) -/
theorem Try.strings_Join (bk o c : Nat) (xs : List ByteArray) (sep : ByteArray) (w : World) (hcells : ∀ (j : Nat) x, xs[j]? = some x → w.cell? ⟨bk, o + j, none⟩ = some (.string x)) (hbk : bk < w.heap.size) (hN : xs.length ≤ 140737488355328) (hcap : xs.length ≤ c) (hlen : (Lib.join (xs.map (·.data.toList)) sep.data.toList).length ≤ 140737488355328) :
    Calls Try.prog 45 #[.slice (some ⟨bk, o, none⟩) xs.length c, .string sep] w fun e w' => e = .returned (.string ⟨(Lib.join (xs.map (·.data.toList)) sep.data.toList).toArray⟩) ∧ Below w.heap.size w w' := Any.strings_Join Try.lays156 Try.Builder_Extra_156 bk o c xs sep w hcells hbk hN hcap hlen
end Go.Proofs
