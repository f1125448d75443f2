/-
  The document's example (layer 7).
  What the laws of layer 7 look at: few.
  Columns made again: what was encoded comes back. No program stands here.
-/
import Derived.Test.YtefhmemmfajbfaaJ15
import Derived.Test.YtefhmemmfajbfaaJ02
import Derived.RangeFuncWrites
import Derived.RangeFuncLeaves
import Derived.Test.YtefhmemmfajbfaaJ09
import Derived.Test.YtefhmemmfajbfaaJ08
namespace Go.Proofs.Ytefhmemmfajbfaa
set_option linter.unusedVariables false
set_option linter.unusedSimpArgs false
open Go.RowKit
attribute [local go_sem] Oper.semAt_some

theorem kc_putObj {V : Nat → Prop} {B : Nat} (W : World) (l : Nat) (o o' : Obj) (_ : B ≤ l) (h : W.heap[l]? = some o) (hc : o.isCells = false) (_ : o.isWalk = false) : KC V W (W.putObj l o') :=
  ⟨(grownBy_putObj' W l o').size, fun b k v _ hv => cell_kept hv (grownBy_putObj' W l o') (fun r e => by cases e; exact ⟨o, h, hc⟩)⟩
theorem kc_set {V : Nat → Prop} (W : World) {b : Nat} (i : Nat) (u : Value) (hb : V b) : KC V W (W.setCell ⟨b, i, none⟩ u) :=
  ⟨by simp [World.setCell], fun b' o v hn h => (World.cell?_of_block (Below.heap_setCell W ⟨b, i, none⟩ u b' (fun e => hn (by rw [e]; exact hb)))).trans h⟩
theorem blk_kept {W W' : World} {g B : Nat} {t : TypeId} {cs : Array Value} {row : Option Nat} (h : Blk W g t cs) (hg : W.grownBy W' row) (hr : ∀ r, row = some r → B ≤ r ∧ ∃ o : Obj, W.heap[r]? = some o ∧ o.isCells = false) : Blk W' g t cs :=
  (hg.block g h.lt (fun e => by
    obtain ⟨_, o, h1, h2⟩ := hr g e.symm
    rw [h] at h1
    cases h1
    cases h2)).trans h
def zs7 : List UInt8 := List.replicate 128 0
theorem zs7_eq : zs7 = List.replicate 128 0 := rfl
def exRow : List (List UInt8) := encS [(1, 3)] 24 0 0 zs7
theorem ex_facts : encE [(1, 3)] ((24 : Nat) : Int) 0 0 zs7 = 0 ∧ (encS [(1, 3)] ((24 : Nat) : Int) 0 0 zs7).length = 3 := by decide +kernel
theorem ex_map : ((colsOf [(1, 3)] ((24 : Nat) : Int) 0 0 2).filter fun c => !c.2.2.1).map (·.1) = [1, 2] := by decide +kernel
theorem ex_tries : (triesL [(1, 3)] ((24 : Nat) : Int) 0 0 2 ((encS [(1, 3)] ((24 : Nat) : Int) 0 0 zs7).set 1 [])).map (·.2) = [zs7] := by
  have h0 : devsL ((colsOf [(1, 3)] ((24 : Nat) : Int) 0 0 2).filter fun c => !c.2.2.1) = [1, 2] := by
    unfold devsL
    rw [ex_map, List.mergeSort_of_pairwise (by decide)]
    decide +kernel
  have h1 : parDevs (colsOf [(1, 3)] ((24 : Nat) : Int) 0 0 2) = [-1, 1, 2] := by unfold parDevs; rw [h0]
  unfold triesL
  rw [if_pos (by decide +kernel), if_neg (by decide +kernel)]
  unfold parT
  rw [h1]
  decide +kernel
theorem geo_ex7 (w : World) : GeoAt (w.alloc (.cells #[.int .i64 1, .int .i64 3] 37)) (some ⟨w.heap.size, 0, none⟩) 1 [(1, 3)] := by
  refine ⟨rfl, by decide, fun _ => ⟨w.heap.size, 0, rfl, by simp, fun i x hx => ?_⟩⟩
  have hi : i = 0 := by
    have := (List.getElem?_eq_some_iff.1 hx).1
    simp at this
    exact this
  subst hi
  simp at hx
  subst hx
  exact ⟨(Blk.new _ _ _).at_ rfl, (Blk.new _ _ _).at_ rfl⟩
set_option maxRecDepth 20000 in
set_option maxHeartbeats 2000000 in
theorem awake07_any (w : World) : Calls Try.prog 8 #[] w fun e w' => e = .returned (.bool true) ∧ Below w.heap.size w w' := by
  refine (callsIn_wide (n := 9)).1 ?_
  refine callsIn_of_wp_marks Try.func8 rfl trivial ?_ rfl
  simp only [Try.ntmps8, List.size_toArray, List.length_cons, List.length_nil, Nat.reduceAdd, Nat.reduceSub, Array.replicate_succ, Array.replicate_zero, List.push_toArray, List.append_toArray, List.nil_append, List.cons_append]
  obtain ⟨w1, hw1⟩ : ∃ z, ((w.alloc (.cells #[.bool false] 4)).alloc (.cells #[.int .i64 1, .int .i64 3] 37)).alloc (.cells #[.slice (some ⟨w.heap.size + 1, 0, none⟩) 1 1, .int .i64 24] 24) = z := ⟨_, rfl⟩
  have hg1 : GeoAt w1 (some ⟨w.heap.size + 1, 0, none⟩) 1 [(1, 3)] := by
    rw [← hw1]
    have := geo_ex7 (w.alloc (.cells #[.bool false] 4))
    rw [World.size_alloc] at this
    exact this.below (keep_alloc (Below.refl _ _) _) (Nat.le_refl _)
  have hX0 : Blk w1 w.heap.size 4 #[.bool false] := by rw [← hw1]; exact ((Blk.new _ _ _).alloc _).alloc _
  have hX1 : Blk w1 (w.heap.size + 1 + 1) 24 #[.slice (some ⟨w.heap.size + 1, 0, none⟩) 1 1, .int .i64 24] := by rw [← hw1]; have := Blk.new ((w.alloc (.cells #[.bool false] 4)).alloc (.cells #[.int .i64 1, .int .i64 3] 37)) 24 #[.slice (some ⟨w.heap.size + 1, 0, none⟩) 1 1, .int .i64 24]; simpa using this
  have hb1 : Below w.heap.size w w1 := by rw [← hw1]; exact keep_alloc (keep_alloc (keep_alloc (Below.refl _ _) _) _) _
  obtain ⟨w2, r2, hB2, hs2, hb2⟩ := mk_bytes w1 128 (by decide)
  have hr2 : (Instr.makeSlice 45 (.int .i64 128) (.int .i64 128)).run Try.prog w1 = .ok (.slice (some ⟨w1.heap.size, 0, none⟩) 128 128) w2 := r2
  have hcv : (convert 45 9 (.slice (some ⟨w1.heap.size, 0, none⟩) 128 128)).run Try.prog w2 = .ok (str zs7) w2 := conv_bytes hB2 128 128 (by simp)
  obtain ⟨w3, hw3⟩ : ∃ z, w2.alloc (.cells #[str zs7] 9) = z := ⟨_, rfl⟩
  have hb13 : Below w1.heap.size w1 w3 := by rw [← hw3]; exact keep_alloc hb2 _
  have hX2 : Blk w3 w2.heap.size 9 #[str zs7] := by rw [← hw3]; exact Blk.new _ _ _
  have HEN := Lib.hid (encode_own (some ⟨w.heap.size + 1, 0, none⟩) 1 1 [(1, 3)] ((24 : Nat) : Int) 0 0 zs7 (hg1.below hb13 (Nat.le_refl _)) (by decide))
  have HG3 := Lib.hid (hg1.below hb13 (Nat.le_refl _))
  have HX3 := Lib.hid (And.intro (hX0.below hb13 hX0.lt) (And.intro (hX1.below hb13 hX1.lt) hX2))
  have HB3 : Hid (Below w.heap.size w w3) := Lib.hid (hb1.trans (hb13.mono hb1.size))
  have HS := Lib.hid hs2
  obtain ⟨q1, q2, q3⟩ := HX3.out
  have hw3' : w2.alloc (.cells #[.string ⟨zs7.toArray⟩] 9) = w3 := hw3
  have x1 : (w2.alloc (.cells #[.string ⟨zs7.toArray⟩] 9)).cell? ⟨w.heap.size + 1 + 1, 0, none⟩ = some (.slice (some ⟨w.heap.size + 1, 0, none⟩) 1 1) := by rw [hw3']; exact q2.at_ rfl
  have x2 : (w2.alloc (.cells #[.string ⟨zs7.toArray⟩] 9)).cell? ⟨w.heap.size + 1 + 1, 1, none⟩ = some (.int .i64 24) := by rw [hw3']; exact q2.at_ rfl
  have x3 : (w2.alloc (.cells #[.string ⟨zs7.toArray⟩] 9)).cell? ⟨w2.heap.size, 0, none⟩ = some (str zs7) := by rw [hw3']; exact q3.at_ rfl
  have HW1 := Lib.hid hw1
  have HW3 := Lib.hid hw3'
  clear hg1 hX0 hX1 hb1 r2 hB2 hs2 hb2 hb13 hX2 q1 q2 q3 hw1 hw3 hw3'
  gi_wp2_with fail
  rw [HW1.out]
  simp only [hr2, Result.andThen, Oper.uponIn]
  gi_wp2_with fail
  rw [HW3.out]
  gi_wp2_with fail
  refine ⟨trivial, callsIn_wide.2 (HEN.out.mono ?_)⟩
  rintro e w4 ⟨v, rfl, hsl, hb4, hown⟩
  rw [ex_facts.1]
  obtain ⟨R, hR⟩ : ∃ R, R = encS [(1, 3)] ((24 : Nat) : Int) 0 0 zs7 := ⟨_, rfl⟩
  rw [← hR] at hsl hown
  have hRl : R.length = 3 := by rw [hR]; exact ex_facts.2
  rw [hRl] at hsl
  obtain ⟨A, c, hv, _, hcell⟩ := hsl
  subst hv
  obtain ⟨g, o, rfl, _⟩ := hcell (by decide)
  obtain ⟨hg3, rfl, rfl, hBk⟩ := hown g o 3 c rfl
  have HR := Lib.hid (And.intro hR hRl)
  have HB4 := Lib.hid hb4
  have HBK := Lib.hid (And.intro hg3 hBk)
  have c4 : w4.cell? ⟨g, 1, none⟩ = some (str (R.getD 1 [])) := hBk.at_ (by
    match R, hRl with
    | [a, b, c], _ => rfl)
  have z4 : w4.frozen? ⟨g, 1, none⟩ = false := hBk.fr 1
  obtain ⟨w5, hw5⟩ : ∃ z, (w4.setCell ⟨g, 1, none⟩ (.string ⟨#[]⟩)).alloc (.cells #[.int .i64 0] 3) = z := ⟨_, rfl⟩
  obtain ⟨q1, q2, q3⟩ := HX3.out
  have hsz3 : w.heap.size + 1 + 1 < w3.heap.size ∧ w2.heap.size < w3.heap.size := ⟨q2.lt, q3.lt⟩
  have p1 : Blk w5 w.heap.size 4 #[.bool false] := by rw [← hw5]; exact ((q1.below hb4 q1.lt).far (by show _ ≠ g; omega) _).alloc _
  have p2 : Blk w5 (w.heap.size + 1 + 1) 24 #[.slice (some ⟨w.heap.size + 1, 0, none⟩) 1 1, .int .i64 24] := by rw [← hw5]; exact ((q2.below hb4 q2.lt).far (by show _ ≠ g; omega) _).alloc _
  have p3 : Blk w5 w2.heap.size 9 #[str zs7] := by rw [← hw5]; exact ((q3.below hb4 q3.lt).far (by show _ ≠ g; omega) _).alloc _
  have p4 : Blk w5 g 9 (strC (R.set 1 [])).toArray := by
    rw [← hw5]
    have := (hBk.put 1 (str [])).alloc (.cells #[.int .i64 0] 3)
    rw [strC_put] at this
    exact this
  have p5 : Blk w5 w4.heap.size 3 #[.int .i64 0] := by
    rw [← hw5]
    have := Blk.new (w4.setCell ⟨g, 1, none⟩ (.string ⟨#[]⟩)) 3 #[.int .i64 0]
    have e : (w4.setCell ⟨g, 1, none⟩ (.string ⟨#[]⟩)).heap.size = w4.heap.size := by simp [World.setCell]
    rw [e] at this
    exact this
  have hb35 : Below w3.heap.size w3 w5 := by rw [← hw5]; exact keep_alloc (below_set hb4 g 1 _ hg3) _
  have HP := Lib.hid (And.intro p1 (And.intro p2 (And.intro p3 (And.intro p4 p5))))
  have HB35 := Lib.hid (And.intro hb35 hBk.lt)
  have y1 : ((w4.setCell ⟨g, 1, none⟩ (.string ⟨#[]⟩)).alloc (.cells #[.int .i64 0] 3)).cell? ⟨w.heap.size + 1 + 1, 0, none⟩ = some (.slice (some ⟨w.heap.size + 1, 0, none⟩) 1 1) := by rw [hw5]; exact p2.at_ rfl
  have y2 : ((w4.setCell ⟨g, 1, none⟩ (.string ⟨#[]⟩)).alloc (.cells #[.int .i64 0] 3)).cell? ⟨w.heap.size + 1 + 1, 1, none⟩ = some (.int .i64 24) := by rw [hw5]; exact p2.at_ rfl
  have HW5 := Lib.hid hw5
  clear hR hRl hcell hown hb4 hg3 hBk HEN hw5 p1 p2 p3 p4 p5 hb35 q1 q2 q3 hsz3
  have HTA := Lib.hid (tries_any (w := w5) (some ⟨w.heap.size + 1, 0, none⟩) 1 1 24 0 0 2 (.slice (some ⟨g, 0, none⟩) 3 3) ⟨_, _, _, rfl⟩)
  gi_wp2_with fail
  rw [HW5.out]
  refine ⟨trivial, callsIn_wide.2 (HTA.out.mono ?_)⟩
  rintro e w6 ⟨rfl, hbx, hb6⟩
  gi_wp2_with fail
  have hgx : GeoAt w6 (some ⟨w.heap.size + 1, 0, none⟩) 1 [(1, 3)] := HG3.out.below (keep_below hb6 HB35.out.1) (Nat.le_refl _)
  have hl3 : (R.set 1 []).length = 3 := by rw [List.length_set]; exact HR.out.2
  obtain ⟨p1, p2, p3, p4, p5⟩ := HP.out
  have p4' := p4.below hb6 p4.lt
  have hsx : SlV w6 (fun b => b = w4.heap.size) (.slice (some ⟨g, 0, none⟩) 3 3) ((R.set 1 []).length) (strC (R.set 1 [])) := by
    rw [hl3]
    exact ⟨_, _, rfl, Nat.le_refl _, fun _ => ⟨g, 0, rfl, p4'.lt, fun h => Nat.ne_of_lt HB35.out.2 h, fun j u hu => by rw [Nat.zero_add]; exact p4'.at_ (by simpa using hu)⟩⟩
  have HTL : Hid ((triesL [(1, 3)] 24 0 0 2 (R.set 1 [])).map (·.2) = [zs7]) := Lib.hid (by rw [HR.out.1]; exact ex_tries)
  have HQ := Lib.hid (And.intro (p1.below hb6 p1.lt) (And.intro (p3.below hb6 p3.lt) (And.intro (p5.below hb6 p5.lt) (keep_below hb6 (keep_below HB35.out.1 HB3.out)))))
  have hV6 : ∀ b, b = w4.heap.size → b < w6.heap.size := fun b h => by rw [h]; exact (p5.below hb6 p5.lt).lt
  have hr6 : w.heap.size < w6.heap.size := (p1.below hb6 p1.lt).lt
  clear p1 p2 p3 p4 p5 p4' hl3 hb6 HTA
  refine wpIn_rangeFunc_ownG rfl (by decide) (gf := 29) (lb := _) rfl trivial (enters_of Try.func29 (by kernel_rfl) rfl)
    (tries_seq (9 - 1) (V := fun b => b = w4.heap.size) hbx hgx hsx hV6) KC.trans (kc_putObj) (Below.refl _ _) (fun _ => rfl)
    (fun pre W => Blk W w4.heap.size 3 #[.int .i64 (pre.length : Nat)] ∧ Blk W w.heap.size 4 #[.bool false] ∧ Blk W w2.heap.size 9 #[str zs7] ∧ (∀ x ∈ pre, x.2 = zs7) ∧ Below w.heap.size w W)
    (fun c pre W => c = .ret ∧ ∃ x ∈ pre, x.2 ≠ zs7) ?hI ?hIx ?h0 ?a1 ?assign ?body ?done ?stop
  case hI => exact fun s A B row hs hg hr => ⟨blk_kept hs.1 hg hr, blk_kept hs.2.1 hg hr, blk_kept hs.2.2.1 hg hr, hs.2.2.2.1, ownFrom_below (β := List TryX) (Nat.le_refl _) (Nat.le_of_lt hr6) s A B row hs.2.2.2.2 hg hr⟩
  case hIx => exact fun c s A B row hs hg hr => hs
  case h0 => exact ⟨HQ.out.2.2.1, HQ.out.1, HQ.out.2.1, fun x hx => (by cases hx), HQ.out.2.2.2⟩
  case assign =>
    intro l x W K hK
    simp only [tryE, List.zip_toArray, List.zip_cons_cons, List.zip_nil_left, List.zip_nil_right, List.foldl_toArray, List.foldl_cons, List.foldl_nil, List.size_toArray, List.length_cons, List.length_nil, List.setIfInBounds_toArray, List.set_cons_succ, List.set_cons_zero]
    gi_wp2
    exact hK
  case body =>
    rintro l pre ⟨d, t⟩ W ⟨k1, k2, k3, hall, hb⟩ hlt
    have hl1 := congrArg List.length HTL.out
    rw [List.length_map] at hl1
    have hp1 : pre.length < 1 := by rw [hl1] at hlt; exact hlt
    obtain rfl : pre = [] := List.length_eq_zero_iff.1 (by omega)
    have c1 : W.cell? ⟨w4.heap.size, 0, none⟩ = some (.int .i64 0) := k1.at_ rfl
    have f1 := k1.fr 0
    have c2 : W.cell? ⟨w.heap.size, 0, none⟩ = some (.bool false) := k2.at_ rfl
    have f2 := k2.fr 0
    have c3 : W.cell? ⟨w2.heap.size, 0, none⟩ = some (str zs7) := k3.at_ rfl
    have HK := Lib.hid (And.intro k1 (And.intro k2 (And.intro k3 hb)))
    have HN : Hid (w.heap.size ≠ w4.heap.size ∧ w2.heap.size ≠ w4.heap.size ∧ w.heap.size < w4.heap.size) := Lib.hid (by have := HX3.out.1.lt; have := HX3.out.2.2.lt; have := HB4.out.size; omega)
    clear k1 k2 k3 hb hlt hl1 hall hp1
    by_cases hx2 : t = zs7
    · subst hx2
      gi_wp2_with fail
      refine ⟨(KeepsOthers.setCell _ _ _).from _, kc_set _ _ _ rfl, ?_, HK.out.2.1.far HN.out.1 _, HK.out.2.2.1.far HN.out.2.1 _, fun x hx => ?_, below_set HK.out.2.2.2 _ _ _ (Nat.le_of_lt HN.out.2.2)⟩
      · exact HK.out.1.put 0 (.int .i64 1)
      · rw [List.nil_append, List.mem_singleton] at hx
        rw [hx]
    · have hx3 : (t == zs7) = false := beq_eq_false_iff_ne.2 hx2
      have hx4 : (t != zs7) = true := bne_iff_ne.2 hx2
      gi_wp2_with fail
      refine ⟨(KeepsOthers.setCell _ _ _).from _, rfl, _, List.mem_singleton.2 rfl, hx2⟩
  case done =>
    rintro D xs W hD hS ⟨k1, k2, k3, hall, hb⟩ hK
    have hl1 := congrArg List.length HTL.out
    rw [List.length_map, ← hS] at hl1
    rw [hl1] at k1
    have c1 : W.cell? ⟨w4.heap.size, 0, none⟩ = some (.int .i64 1) := k1.at_ rfl
    have c2 : W.cell? ⟨w.heap.size, 0, none⟩ = some (.bool false) := k2.at_ rfl
    have f2 := k2.fr 0
    have HK := Lib.hid hK
    have HBW := Lib.hid (And.intro k2 hb)
    have HD := Lib.hid hD
    clear k1 k2 k3 hb hS hl1 hall hK hD
    gi_wp2_with fail
    have hK2 : (W.setCell ⟨w.heap.size, 0, none⟩ (.bool true)).heap[D]? = some (.deferred (some [])) := (KeepsOthers.setCell _ _ _).same D _ HK.out rfl
    have hc := (HBW.out.1.put 0 (.bool true)).at_ (i := 0) (v := .bool true) rfl
    have hc2 := cell_kept hc (grownBy_putObj' _ D (.deferred none)) (fun r e => by cases e; exact ⟨_, hK2, rfl⟩)
    refine ⟨by simp, .inl ⟨_, _, rfl, run_takeDeferred hK2, ?_⟩⟩
    refine ⟨.bool true, ?_, rfl, ?_⟩
    · simp [results, Try.f8, go_sem, hc2]
    · exact (below_set HBW.out.2 _ 0 (.bool true) (Nat.le_refl _)).trans (belowK_b (w := w) (Nat.le_refl _) _ D _ _ (by have := HD.out; omega) hK2 rfl rfl)
  case stop =>
    rintro D c pre W hD hS ⟨rfl, x, hx, hne⟩ hK
    exfalso
    have := hS.map (·.2)
    rw [HTL.out] at this
    have h2 := this.subset (List.mem_map.2 ⟨x, hx, rfl⟩)
    simp at h2
    exact hne h2
end Go.Proofs.Ytefhmemmfajbfaa

namespace Go.Proofs.Ytefhmemmfajbfaa
set_option linter.unusedVariables false
set_option linter.unusedSimpArgs false
open Go.RowKit

/-- Columns of a size that is looked at. -/
def fewB (gs : List (Int × Int)) (got : List (List UInt8)) : Bool := !((got.take 100).any fun s => decide (1000 < s.length)) && (decide (got.length < 100) && decide (gs.length < 100))
theorem fewB_true {gs : List (Int × Int)} {got : List (List UInt8)} (h : fewB gs got = true) : got.length < 100 ∧ ∀ s ∈ got, s.length ≤ 1000 := by
  unfold fewB at h
  simp only [Bool.and_eq_true, Bool.not_eq_true', List.any_eq_false, decide_eq_true_eq] at h
  obtain ⟨h1, h2, _⟩ := h
  rw [List.take_of_length_le (by omega)] at h1
  exact ⟨h2, fun s hs => by have := h1 s hs; omega⟩
theorem fewB_long {gs : List (Int × Int)} {got : List (List UInt8)} {k : Nat} {s : List UInt8} (hk : k < 100) (hs : got[k]? = some s) (hl : 1000 < s.length) : fewB gs got = false := by
  unfold fewB
  have : (got.take 100).any (fun s => decide (1000 < s.length)) = true := by
    rw [List.any_eq_true]
    exact ⟨s, List.mem_of_getElem? (i := k) (by rw [List.getElem?_take_of_lt hk]; exact hs), decide_eq_true hl⟩
  rw [this]
  rfl
theorem fewB_all {gs : List (Int × Int)} {got : List (List UInt8)} (h : ∀ j, j < got.length → ∀ s, got[j]? = some s → s.length ≤ 1000) : fewB gs got = (decide (got.length < 100) && decide (gs.length < 100)) := by
  unfold fewB
  have : (got.take 100).any (fun s => decide (1000 < s.length)) = false := by
    rw [List.any_eq_false]
    intro s hs
    obtain ⟨j, hj⟩ := List.mem_iff_getElem?.1 (List.mem_of_mem_take hs)
    have := h j (List.getElem?_eq_some_iff.1 hj).1 s hj
    simp
    exact this
  rw [this]
  rfl
set_option maxRecDepth 20000 in
set_option maxHeartbeats 1000000 in
theorem few_any (A : Option Addr) (m cc : Nat) (gs : List (Int × Int)) (secs : Int) {gv : Value} {got : List (List UInt8)} {w : World} (hg : GeoAt w A m gs) (hs : SlAt w gv got.length (strC got)) (hl : got.length ≤ 9223372036854775807) :
    Calls Try.prog 9 #[.agg #[.slice A m cc, .int .i64 secs], gv] w fun e w' => e = .returned (.bool (fewB gs got)) ∧ Below w.heap.size w w' := by
  obtain ⟨w1, hw1⟩ : ∃ z, w.alloc (.cells #[.slice A m cc, .int .i64 secs] 24) = z := ⟨_, rfl⟩
  have B1 : Blk w1 w.heap.size 24 #[.slice A m cc, .int .i64 secs] := by rw [← hw1]; exact Blk.new _ _ _
  have D1 : Below w.heap.size w w1 := by rw [← hw1]; exact keep_alloc (Below.refl _ _) _
  have hm := hg.1
  obtain ⟨Ag, cg, rfl⟩ := hs.form
  have HS := Lib.hid (hs.below D1)
  have HB1 := Lib.hid B1
  have HD1 := Lib.hid D1
  have HW1 := Lib.hid hw1
  have HM := Lib.hid hm
  clear hg hs B1 D1 hw1 hm
  go_enter Try.func9, Try.ntmps9
  go_wp2_with fail
  rw [HW1.out]
  go_loopw [5] (fun t wr => ∃ k : Nat, k ≤ got.length ∧ k ≤ 100 ∧ t = .int .i64 k ∧ Below w1.heap.size w1 wr ∧ ∀ j, j < k → ∀ s, got[j]? = some s → s.length ≤ 1000) (fun t _ => got.length - (RowKit.intOf t).toNat)
  case atStart => exact ⟨0, Nat.zero_le _, Nat.zero_le _, rfl, Below.refl _ _, fun j hj => absurd hj (Nat.not_lt_zero _)⟩
  case round =>
    obtain ⟨k, hk, hk1, rfl, hb, hal⟩ := hrel
    have HB := Lib.hid (keep_below hb HD1.out)
    have HBW := Lib.hid hb
    have HAL := Lib.hid hal
    have x0 := (HB1.out.below hb HB1.out.lt).at_ (i := 0) (v := .slice A m cc) rfl
    by_cases hlt : k < got.length ∧ k < 100
    · obtain ⟨h1, h2⟩ := hlt
      obtain ⟨s, hs⟩ : ∃ s, got[k]? = some s := ⟨_, List.getElem?_eq_getElem h1⟩
      obtain ⟨b, oo, rfl, hbl, hcell⟩ := HS.out.cells (by omega)
      have f0 : wr.cell? ⟨b, oo + k, none⟩ = some (str s) := (World.cell?_of_block (hb.block b hbl)).trans (hcell _ _ (strC_at hs))
      have hd1 : decide (k < got.length) = true := decide_eq_true h1
      have hd2 : decide ((k : Int) < 100) = true := decide_eq_true (by omega)
      have H12 := Lib.hid (And.intro h1 h2)
      have HX := Lib.hid hs
      clear hb hal hbl hcell hs h2 hk1
      by_cases hlong : 1000 < s.length
      · have hd3 : decide ((1000 : Int) < s.length) = true := decide_eq_true (by omega)
        have HL := Lib.hid hlong
        clear hlong
        go_wp2_with fail
        go_ret
        exact ⟨by rw [fewB_long H12.out.2 HX.out HL.out]; rfl, HB.out⟩
      · have hd3 : decide ((1000 : Int) < s.length) = false := decide_eq_false (by omega)
        have HL := Lib.hid hlong
        clear hlong
        go_wp2_with fail
        go_roundw
        case rel => exact ⟨k + 1, H12.out.1, H12.out.2, by go_num, HBW.out, fun j hj t ht => by
          rcases Nat.lt_or_ge j k with h | h
          · exact HAL.out j h t ht
          · obtain rfl : j = k := by omega
            rw [HX.out] at ht
            cases ht
            have := HL.out
            omega⟩
        case measure => have := H12.out.1; simp [RowKit.intOf]; omega
    · have HN := Lib.hid hlt
      have hkk := Lib.hid (And.intro hk hk1)
      have hres : fewB gs got = (decide (got.length < 100) && decide (m < 100)) := by
        rw [← HM.out]
        by_cases h1 : k < got.length
        · have h100 : ¬ got.length < 100 := by omega
          rw [decide_eq_false h100]
          unfold fewB
          rw [decide_eq_false h100]
          simp
        · obtain rfl : k = got.length := by omega
          exact fewB_all hal
      have HR := Lib.hid hres
      by_cases h1 : k < got.length
      · have hd1 : decide (k < got.length) = true := decide_eq_true h1
        have hd2 : decide ((k : Int) < 100) = false := decide_eq_false (by omega)
        have hd3 : decide ((got.length : Int) < 100) = false := decide_eq_false (by omega)
        have HF : Hid (fewB gs got = false) := Lib.hid (by rw [HR.out, decide_eq_false (by omega)]; rfl)
        clear hb hal hlt h1 hres hk hk1
        go_wp2_with fail
        go_ret
        exact ⟨by rw [HF.out]; rfl, HB.out⟩
      · obtain rfl : k = got.length := by omega
        have hd1 : decide (got.length < got.length) = false := decide_eq_false (by omega)
        by_cases h2 : got.length < 100
        · have hd3 : decide ((got.length : Int) < 100) = true := decide_eq_true (by omega)
          have HF : Hid (fewB gs got = decide ((m : Int) < 100)) := Lib.hid (by
            rw [HR.out, decide_eq_true h2, Bool.true_and]
            by_cases h3 : m < 100
            · rw [decide_eq_true h3, decide_eq_true (by omega)]
            · rw [decide_eq_false h3, decide_eq_false (by omega)])
          clear hb hal hlt h1 hres hk hk1 h2
          go_wp2_with fail
          go_ret
          exact ⟨by rw [HF.out]; rfl, HB.out⟩
        · have hd3 : decide ((got.length : Int) < 100) = false := decide_eq_false (by omega)
          have HF : Hid (fewB gs got = false) := Lib.hid (by rw [HR.out, decide_eq_false h2]; rfl)
          clear hb hal hlt h1 hres hk hk1 h2
          go_wp2_with fail
          go_ret
          exact ⟨by rw [HF.out]; rfl, HB.out⟩
end Go.Proofs.Ytefhmemmfajbfaa

namespace Go.Proofs.Ytefhmemmfajbfaa
set_option linter.unusedVariables false
set_option linter.unusedSimpArgs false

theorem xorL_comm (a b : List UInt8) : xorL a b = xorL b a := by
  unfold xorL
  rw [List.zipWith_comm]
  simp [UInt8.xor_comm]
theorem xorL_assoc : ∀ a b c : List UInt8, xorL (xorL a b) c = xorL a (xorL b c)
  | [], _, _ => by simp [xorL]
  | _ :: _, [], _ => by simp [xorL]
  | _ :: _, _ :: _, [] => by simp [xorL]
  | x :: a, y :: b, z :: c => by
    have := xorL_assoc a b c
    simp only [xorL, List.zipWith_cons_cons] at this ⊢
    rw [this, UInt8.xor_assoc]
theorem xorL_self : ∀ a : List UInt8, xorL a a = List.replicate a.length 0
  | [] => rfl
  | x :: a => by
    have := xorL_self a
    simp only [xorL, List.zipWith_cons_cons, List.length_cons, List.replicate_succ] at this ⊢
    rw [this, UInt8.xor_self]
theorem xorL_zero : ∀ a : List UInt8, xorL a (List.replicate a.length 0) = a
  | [] => rfl
  | x :: a => by
    have := xorL_zero a
    simp only [xorL, List.zipWith_cons_cons, List.length_cons, List.replicate_succ] at this ⊢
    rw [this, UInt8.xor_zero]
theorem fold_xor (x : List UInt8) : ∀ (l : List (List UInt8)) (a : List UInt8), l.foldl xorL (xorL x a) = xorL x (l.foldl xorL a)
  | [], _ => rfl
  | y :: l, a => by rw [List.foldl_cons, List.foldl_cons, xorL_assoc, fold_xor x l]
theorem parN_cons (n : Nat) (x : List UInt8) (l : List (List UInt8)) : parN n (x :: l) = xorL x (parN n l) := by
  unfold parN
  rw [List.foldl_cons, xorL_comm, fold_xor]
theorem parN_perm {n : Nat} {l m : List (List UInt8)} (h : l.Perm m) : parN n l = parN n m := by
  induction h with
  | nil => rfl
  | cons x _ ih => rw [parN_cons, parN_cons, ih]
  | swap x y l => rw [parN_cons, parN_cons, parN_cons, parN_cons, ← xorL_assoc, ← xorL_assoc, xorL_comm y x]
  | trans _ _ h1 h2 => rw [h1, h2]
theorem xor_back {a b : List UInt8} {n : Nat} (ha : a.length = n) (hb : b.length = n) (h : xorL a b = List.replicate n 0) : b = a := by
  have : xorL a (xorL a b) = b := by rw [← xorL_assoc, xorL_self, xorL_comm, ha, ← hb]; exact xorL_zero b
  rw [← this, h, ← ha]
  exact xorL_zero a
/-- The places of a row. -/
def rowAll (L : List Col) (r : Int) : List Nat := (List.range L.length).filter fun i => (L.getD i (0, 0, false, 0)).2.2.2 == r
theorem rowAll_mem {L : List Col} {r : Int} {i : Nat} : i ∈ rowAll L r ↔ i < L.length ∧ (L.getD i (0, 0, false, 0)).2.2.2 = r := by
  unfold rowAll
  simp
theorem rowAll_perm {L : List Col} {i : Nat} (hi : i < L.length) : (rowAll L (L.getD i (0, 0, false, 0)).2.2.2).Perm (i :: againIx L i L.length) := by
  have hm : i ∈ rowAll L (L.getD i (0, 0, false, 0)).2.2.2 := rowAll_mem.2 ⟨hi, rfl⟩
  have hnd : (rowAll L (L.getD i (0, 0, false, 0)).2.2.2).Nodup := List.nodup_range.filter _
  have h2 := List.perm_cons_erase hm
  rw [hnd.erase_eq_filter] at h2
  have e : (rowAll L (L.getD i (0, 0, false, 0)).2.2.2).filter (fun x => x != i) = againIx L i L.length := by
    unfold rowAll againIx
    rw [List.filter_filter]
    apply List.filter_congr
    intro x _
    exact Bool.and_comm _ _
  rwa [e] at h2
theorem qpar_count (first wide at_ : Int) (k : Nat) : ((parTo first wide at_ k).filter (fun x => !x.2.2.1)).length = k := by
  induction k with
  | zero => rfl
  | succ k ih =>
    rw [parTo]
    split <;> simp [List.filter_append, pcol, ih]
theorem par_idx : ∀ w ∈ List.range 9, ∀ s ∈ List.range 5, 3 ≤ w → 0 < s → ((List.range 9).all fun i => (((parTo 0 w 0 s).map (·.2.2))[i]?).isNone || (((List.range 9).filter fun j => match ((parTo 0 w 0 s).map (·.2.2))[j]?, ((parTo 0 w 0 s).map (·.2.2))[i]? with
    | some x, some y => x.1 && x.2 == y.2
    | _, _ => false).length == 1)) = true := by decide +kernel
/-- What a Parity's columns are. -/
structure ParL (L : List Col) (sz : Nat) : Prop where
  len : L.length ≤ 8
  one : ∀ i, i < L.length → ∃ p, p < L.length ∧ (L.getD p (0, 0, false, 0)).2.2.1 = true ∧ (L.getD p (0, 0, false, 0)).2.2.2 = (L.getD i (0, 0, false, 0)).2.2.2 ∧ ∀ q, q < L.length → (L.getD q (0, 0, false, 0)).2.2.1 = true → (L.getD q (0, 0, false, 0)).2.2.2 = (L.getD i (0, 0, false, 0)).2.2.2 → q = p
  dat : ∀ i, i < L.length → ∃ p, p < L.length ∧ (L.getD p (0, 0, false, 0)).2.2.1 = false ∧ (L.getD p (0, 0, false, 0)).2.2.2 = (L.getD i (0, 0, false, 0)).2.2.2
  cnt : (L.filter fun c => !c.2.2.1).length = sz
theorem colD_in {L : List Col} {i : Nat} (h : i < L.length) : L[i]? = some (L.getD i (0, 0, false, 0)) := by
  rw [List.getD_eq_getElem?_getD, List.getElem?_eq_getElem h]
  rfl
theorem parL_of {gs : List (Int × Int)} {secs pg pa size : Int} (h : cMay gs secs pg pa size = true) (hk : (grAt gs pg).1 ≠ 0) : ParL (colsOf gs secs pg pa size) size.toNat := by
  have hd := fun {c : Col} => data_shape h (c := c)
  obtain ⟨hhas, hz1, hz2, hp1, hp2, _⟩ := cMay_true h
  obtain ⟨sz, rfl⟩ := Int.eq_ofNat_of_zero_le (show 0 ≤ size by omega)
  obtain ⟨g, x, rfl, _, hl4, hs1, hs2, hx, hgx, ho⟩ := gHas_true hhas
  obtain ⟨kd, wd⟩ := x
  rw [hgx] at hk
  have ho' := gOne_true ho
  simp only at ho' hk
  obtain ⟨w, rfl⟩ := Int.eq_ofNat_of_zero_le (show 0 ≤ wd by omega)
  rcases ho' with ⟨rfl, _, _⟩ | ⟨rfl, h1, h2⟩
  · exact absurd rfl hk
  have hL : colsOf gs secs g pa sz = parTo (gFirst gs secs g) w pa sz := by unfold colsOf; rw [hgx]; rfl
  rw [hL] at hd ⊢
  rw [Int.toNat_natCast]
  have hlen := parTo_len (gFirst gs secs g) w pa sz
  have hsh := parTo_shape (gFirst gs secs g) w pa sz
  have key := par_idx w (by simp; omega) sz (by simp; omega) (by omega) (by omega)
  rw [← hsh] at key
  generalize hM : parTo (gFirst gs secs g) w pa sz = L at *
  have hat : ∀ j, j < L.length → (L.map (·.2.2))[j]? = some (L.getD j (0, 0, false, 0)).2.2 := fun j hj => by rw [List.getElem?_map, colD_in hj]; rfl
  have hone : ∀ i, i < L.length → ∃ p, p < L.length ∧ (L.getD p (0, 0, false, 0)).2.2.1 = true ∧ (L.getD p (0, 0, false, 0)).2.2.2 = (L.getD i (0, 0, false, 0)).2.2.2 ∧ ∀ q, q < L.length → (L.getD q (0, 0, false, 0)).2.2.1 = true → (L.getD q (0, 0, false, 0)).2.2.2 = (L.getD i (0, 0, false, 0)).2.2.2 → q = p := by
    intro i hi
    have k1 := List.all_eq_true.1 key i (List.mem_range.2 (by omega))
    rw [hat i hi, Option.isNone_some, Bool.false_or, beq_iff_eq, List.length_eq_one_iff] at k1
    obtain ⟨p, hp⟩ := k1
    have hmem : ∀ q, q < L.length → ((L.getD q (0, 0, false, 0)).2.2.1 = true ∧ (L.getD q (0, 0, false, 0)).2.2.2 = (L.getD i (0, 0, false, 0)).2.2.2 ↔ q = p) := by
      intro q hq
      have : q ∈ [p] ↔ q = p := List.mem_singleton
      rw [← this, ← hp, List.mem_filter, hat q hq]
      simp [show q < 9 by omega]
    have hpin : p ∈ [p] := List.mem_singleton.2 rfl
    rw [← hp] at hpin
    have hpl : p < L.length := by
      have h3 := (List.mem_filter.1 hpin).2
      by_cases h4 : p < L.length
      · exact h4
      · rw [List.getElem?_eq_none (by rw [List.length_map]; omega)] at h3
        cases h3
    have h5 := (hmem p hpl).2 rfl
    exact ⟨p, hpl, h5.1, h5.2, fun q hq h6 h7 => (hmem q hq).1 ⟨h6, h7⟩⟩
  refine ⟨by omega, hone, fun i hi => ?_, by rw [← hM]; exact qpar_count _ _ _ _⟩
  obtain ⟨p, hp, h3, h4, _⟩ := hone i hi
  obtain ⟨e, he, h5, h6⟩ := hd (c := L.getD p (0, 0, false, 0)) (List.mem_of_getElem? (colD_in hp)) h3
  obtain ⟨j, hj⟩ := List.mem_iff_getElem?.1 he
  have hjl := (List.getElem?_eq_some_iff.1 hj).1
  rw [colD_in hjl] at hj
  cases hj
  exact ⟨j, hjl, h5, by rw [h6, h4]⟩
/-- Of columns that are encoded each is what the others of its row are together. -/
structure EncL (L : List Col) (E : List (List UInt8)) : Prop where
  len : E.length = L.length
  all64 : ∀ i, i < L.length → (E.getD i []).length = 64
  par : ∀ i, i < L.length → (L.getD i (0, 0, false, 0)).2.2.1 = true → E.getD i [] = makeS ((rowIx L (L.getD i (0, 0, false, 0)).2.2.2).map fun j => E.getD j [])
theorem makeS_64 {l : List (List UInt8)} (hne : l ≠ []) (h : ∀ x ∈ l, x.length = 64) : makeS l = parN 64 l := by
  have hh : (l.headD []).length = 64 := by
    cases l with
    | nil => exact absurd rfl hne
    | cons a r => exact h a List.mem_cons_self
  have he : evenB l = true := by
    unfold evenB
    rw [List.all_eq_true]
    intro x hx
    rw [h x hx, hh]
    exact beq_self_eq_true _
  unfold makeS
  rw [if_pos ⟨hne, he⟩, hh]
theorem rowIx_eq {L : List Col} {p : Nat} {sz : Nat} (hL : ParL L sz) (hp : p < L.length) (hpar : (L.getD p (0, 0, false, 0)).2.2.1 = true) : rowIx L (L.getD p (0, 0, false, 0)).2.2.2 = againIx L p L.length := by
  obtain ⟨p', _, _, _, hu⟩ := hL.one p hp
  have hpp := hu p hp hpar rfl
  unfold rowIx againIx
  apply List.filter_congr
  intro i hi
  have hi := List.mem_range.1 hi
  rw [colD_in hi]
  simp only
  by_cases hr : (L.getD i (0, 0, false, 0)).2.2.2 = (L.getD p (0, 0, false, 0)).2.2.2
  · rw [hr]
    cases hc : (L.getD i (0, 0, false, 0)).2.2.1 with
    | true =>
      have := hu i hi hc hr
      simp [this, hpp]
    | false =>
      have : i ≠ p := fun e => by rw [e, hpar] at hc; cases hc
      simp [this]
  · rw [decide_eq_false hr, beq_eq_false_iff_ne.2 hr]
    rfl
theorem againIx_mem {L : List Col} {i j : Nat} : j ∈ againIx L i L.length ↔ j < L.length ∧ (L.getD j (0, 0, false, 0)).2.2.2 = (L.getD i (0, 0, false, 0)).2.2.2 ∧ j ≠ i := by
  unfold againIx
  simp
theorem again_ne {L : List Col} {sz i : Nat} (hL : ParL L sz) (hi : i < L.length) : againIx L i L.length ≠ [] := by
  intro he
  obtain ⟨p, h1, h2, h3, _⟩ := hL.one i hi
  obtain ⟨q, h4, h5, h6⟩ := hL.dat i hi
  have hno : ∀ j, j < L.length → (L.getD j (0, 0, false, 0)).2.2.2 = (L.getD i (0, 0, false, 0)).2.2.2 → j = i := fun j hj hr => by
    refine Decidable.byContradiction fun hne => ?_
    have := againIx_mem.2 ⟨hj, hr, hne⟩
    rw [he] at this
    cases this
  have e1 := hno p h1 h3
  have e2 := hno q h4 h6
  rw [e1] at h2
  rw [e2, h2] at h5
  cases h5
theorem row_zero {L : List Col} {E : List (List UInt8)} {sz i : Nat} (hL : ParL L sz) (hE : EncL L E) (hi : i < L.length) : parN 64 ((rowAll L (L.getD i (0, 0, false, 0)).2.2.2).map fun j => E.getD j []) = List.replicate 64 0 := by
  obtain ⟨p, h1, h2, h3, _⟩ := hL.one i hi
  rw [← h3]
  rw [parN_perm ((rowAll_perm h1).map _), List.map_cons, parN_cons]
  have e := hE.par p h1 h2
  rw [rowIx_eq hL h1 h2, makeS_64 (by simp only [ne_eq, List.map_eq_nil_iff]; exact again_ne hL h1) (fun x hx => by
    obtain ⟨j, hj, rfl⟩ := List.mem_map.1 hx
    exact hE.all64 j (againIx_mem.1 hj).1)] at e
  rw [← e, xorL_self, hE.all64 p h1]
theorem again_back {L : List Col} {E got : List (List UInt8)} {sz i : Nat} (hL : ParL L sz) (hE : EncL L E) (hi : i < L.length)
    (hg : ∀ j, j < L.length → (L.getD j (0, 0, false, 0)).2.2.2 = (L.getD i (0, 0, false, 0)).2.2.2 → j ≠ i → got.getD j [] = E.getD j []) : againS L got i = E.getD i [] := by
  have hmap : ((againIx L i L.length).map fun j => got.getD j []) = (againIx L i L.length).map fun j => E.getD j [] := by
    apply List.map_congr_left
    intro j hj
    obtain ⟨a, b, c⟩ := againIx_mem.1 hj
    exact hg j a b c
  have h64 : ∀ x ∈ (againIx L i L.length).map fun j => E.getD j [], x.length = 64 := fun x hx => by
    obtain ⟨j, hj, rfl⟩ := List.mem_map.1 hx
    exact hE.all64 j (againIx_mem.1 hj).1
  have hne : ((againIx L i L.length).map fun j => E.getD j []) ≠ [] := by simp only [ne_eq, List.map_eq_nil_iff]; exact again_ne hL hi
  have hno : hasE ((againIx L i L.length).map fun j => E.getD j []) = false := by
    unfold hasE
    rw [List.any_eq_false]
    intro x hx hxe
    have := h64 x hx
    rw [List.isEmpty_iff.1 hxe] at this
    cases this
  unfold againS
  simp only
  rw [hmap, hno, makeS_64 hne h64]
  simp only [Bool.false_eq_true, if_false]
  have hz := row_zero hL hE hi
  rw [parN_perm ((rowAll_perm hi).map _), List.map_cons, parN_cons] at hz
  exact xor_back (hE.all64 i hi) (parN_len h64) hz
/-- Where one of a row's others is missing, nothing is made again. -/
theorem again_none {L : List Col} {got : List (List UInt8)} {i j : Nat} (hj : j < L.length) (hr : (L.getD j (0, 0, false, 0)).2.2.2 = (L.getD i (0, 0, false, 0)).2.2.2) (hne : j ≠ i) (he : got.getD j [] = []) : againS L got i = [] := by
  have : hasE ((againIx L i L.length).map fun j => got.getD j []) = true := by
    unfold hasE
    rw [List.any_eq_true]
    exact ⟨[], List.mem_map.2 ⟨j, againIx_mem.2 ⟨hj, hr, hne⟩, he⟩, rfl⟩
  unfold againS
  simp only
  rw [this, if_pos rfl]
theorem again_some {L : List Col} {got : List (List UInt8)} {i : Nat} (h : againS L got i ≠ []) : ∀ j, j < L.length → (L.getD j (0, 0, false, 0)).2.2.2 = (L.getD i (0, 0, false, 0)).2.2.2 → j ≠ i → got.getD j [] ≠ [] :=
  fun _ hj hr hne he => h (again_none hj hr hne he)
end Go.Proofs.Ytefhmemmfajbfaa
