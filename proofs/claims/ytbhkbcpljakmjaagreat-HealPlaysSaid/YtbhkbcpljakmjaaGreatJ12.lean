/-
  cols.Data: slices.IndexFunc, slices.DeleteFunc at Col.
  slices.DeleteFunc at Col.
  cols.Data.
  Where columns lie: plain lemmas on the lists of columns.
  What the law ColsData needs to know of the data columns.
  What the law ColsRows needs to know of the columns.
  Blocks on a pool's devices, as plain words; len of a map of numbers.
  What is encoded has whole sectors. No program stands here.
-/
import Derived.Lib.SliceRun
import Derived.Test.YtbhkbcpljakmjaaGreatJ11
import Derived.Test.YtbhkbcpljakmjaaGreatJ07
namespace Go.Proofs.YtbhkbcpljakmjaaGreat
set_option linter.unusedVariables false
set_option linter.unusedSimpArgs false
open Go.RowKit
section
variable {w : World} {base g cap n size : Nat} {e : TypeId} {xs : List Value}
theorem own_setCells (us : List Value) : ∀ (w : World) (o : Nat) (xs : List Value), w.ownsRow base e size (.slice (some ⟨g, 0, none⟩) n cap) n xs →
 ∃ ys, (w.setCells g o us).ownsRow base e size (.slice (some ⟨g, 0, none⟩) n cap) n ys ∧ (∀ j, j < o → ys[j]? = xs[j]?) ∧ w.grownBy (w.setCells g o us) (some g) := by
 induction us with
 | nil => intro w o xs h; exact ⟨xs, h, fun _ _ => rfl, ⟨rfl, rfl, rfl, Nat.le_refl _, fun _ _ _ => rfl⟩⟩
 | cons u us ih =>
  intro w o xs h
  obtain ⟨h1, h2⟩ := h.stored o u
  obtain ⟨ys, h3, h4, h5⟩ := ih _ (o + 1) _ h1
  refine ⟨ys, h3, fun j hj => ?_, ⟨h5.os.trans h2.os, h5.tape.trans h2.tape, h5.output.trans h2.output, Nat.le_trans h2.size h5.size, fun k hk hne => (h5.block k (Nat.lt_of_lt_of_le hk h2.size) hne).trans (h2.block k hk hne)⟩⟩
  rw [h4 j (by omega), List.getElem?_set_ne (by omega)]
theorem own_take {m : Nat} (hm : m ≤ n) (h : w.ownsRow base e size (.slice (some ⟨g, 0, none⟩) n cap) n xs) : w.ownsRow base e size (.slice (some ⟨g, 0, none⟩) m cap) m (xs.take (m * size)) := by
 obtain ⟨h0, h2⟩ := h
 rcases h2 with ⟨h1, _⟩ | ⟨g', cap', cur, hv, hg, hh, hn, hcap, hsz, htake⟩
 · cases h1
 · cases hv
   have hle := Nat.mul_le_mul_right size hm
   refine ⟨by rw [List.length_take, h0]; exact Nat.min_eq_left hle, .inr ⟨g, cap, cur, rfl, hg, hh, by omega, hcap, hsz, ?_⟩⟩
   rw [← htake, List.take_take, Nat.min_eq_left hle]
theorem own_cap (h : w.ownsRow base e size (.slice (some ⟨g, 0, none⟩) n cap) n xs) : n ≤ cap ∧ cap ≤ maxLen ∧ base ≤ g ∧ g < w.heap.size := by
 rcases h.2 with ⟨h1, _⟩ | ⟨g', cap', cur, hv, hg, hh, hn, hcap, hsz, htake⟩
 · cases h1
 · cases hv
   exact ⟨hn, hcap, hg, lt_of_block hh⟩
end
theorem run_clear_cells {P : Program} (w : World) (t e ty : TypeId) (z : Value) (ht : P.underlying t = some (.slice e)) (hv : ∀ w, (zeroValue e).run P w = .ok z w) (b o n c : Nat) (hn : 0 < n)
 (h1 : ∀ v ∈ (Builtin.zeroCells z.cells n).toList, v.oneCell' = true)
 (hc : ∀ j, j < (Builtin.zeroCells z.cells n).toList.length → (w.cell? ⟨b, o + j, none⟩).isSome = true) (hf : ∀ j, j < (Builtin.zeroCells z.cells n).toList.length → w.frozen? ⟨b, o + j, none⟩ = false) :
 (Builtin.clear_ #[t] ty #[.slice (some ⟨b, o, none⟩) n c]).run P w = .ok (.tuple #[]) (w.setCells b o (Builtin.zeroCells z.cells n).toList) := by
 have hst := run_storeCells_cells (P := P) b o (Builtin.zeroCells z.cells n).toList 0 w (by simpa using hc) (by simpa using hf) h1
 simp only [Nat.add_zero] at hst
 obtain ⟨m, rfl⟩ : ∃ m, n = m + 1 := ⟨n - 1, by omega⟩
 simp only [Builtin.clear_, List.getElem?_toArray, List.size_toArray] 
 simp [run_underlying ht, hv, hst]
theorem colsCells_set (L : List Col) : ∀ (i : Nat) (x : Col), colsCells (L.set i x) = ((((colsCells L).set (i * 4) (.int .i64 x.1)).set (i * 4 + 1) (.int .i64 x.2.1)).set (i * 4 + 2) (.bool x.2.2.1)).set (i * 4 + 3) (.int .i64 x.2.2.2) := by
 induction L with
 | nil => intro i x; rfl
 | cons y L ih =>
  intro i x
  match i with
  | 0 => rfl
  | i + 1 =>
   have e : colsCells (y :: L) = .int .i64 y.1 :: .int .i64 y.2.1 :: .bool y.2.2.1 :: .int .i64 y.2.2.2 :: colsCells L := rfl
   have e2 : colsCells (y :: L.set i x) = .int .i64 y.1 :: .int .i64 y.2.1 :: .bool y.2.2.1 :: .int .i64 y.2.2.2 :: colsCells (L.set i x) := rfl
   rw [List.set_cons_succ, e2, e, ih i x, show (i + 1) * 4 = i * 4 + 1 + 1 + 1 + 1 from by omega]
   rfl
theorem colsCells_take (L : List Col) : ∀ m : Nat, (colsCells L).take (m * 4) = colsCells (L.take m) := by
 induction L with
 | nil => intro m; simp [colsCells]
 | cons y L ih =>
  intro m
  match m with
  | 0 => rfl
  | m + 1 =>
   have e : colsCells (y :: L) = .int .i64 y.1 :: .int .i64 y.2.1 :: .bool y.2.2.1 :: .int .i64 y.2.2.2 :: colsCells L := rfl
   have e2 : colsCells (y :: L.take m) = .int .i64 y.1 :: .int .i64 y.2.1 :: .bool y.2.2.1 :: .int .i64 y.2.2.2 :: colsCells (L.take m) := rfl
   rw [List.take_succ_cons, e2, e, ← ih m, show (m + 1) * 4 = m * 4 + 1 + 1 + 1 + 1 from by omega]
   rfl
def ColPred (fn : FuncId) (caps : Array Value) (p : Col → Bool) (B : Nat) (w0 : World) : Prop :=
 ∀ (x : Col) (w : World), Below B w0 w → Calls Tryz.prog fn (#[.agg #[.int .i64 x.1, .int .i64 x.2.1, .bool x.2.2.1, .int .i64 x.2.2.2]] ++ caps) w fun e w' => e = .returned (.bool (p x)) ∧ Below w.heap.size w w'
theorem indexC_any (fn : FuncId) (caps : Array Value) (p : Col → Bool) (b off n c B : Nat) (gs : List Col) (w : World) (hn : gs.length = n) (hn2 : n ≤ 9223372036854775807)
 (hr : CsAt w b off gs) (hgo : Goes fn) (hB : B ≤ w.heap.size) (hp : ColPred fn caps p B w) :
 Calls Tryz.prog 141 #[.slice (some ⟨b, off, none⟩) n c, .func (.func fn) #[] caps] w fun e w' =>
  e = .returned (.int .i64 (firstAt p gs)) ∧ Below w.heap.size w w' := by
 have HP := Lib.hid hp
 clear hp
 unfold Goes at hgo
 go_enter Tryz.func141, Tryz.ntmps141
 go_wp2
 go_loopw [8] (fun t wr => ∃ k : Nat, k ≤ n ∧ t = .int .i64 k ∧ Below w.heap.size w wr ∧ (∀ j, j < k → ∀ x, gs[j]? = some x → p x = false)) (fun t _ => n - (RowKit.intOf t).toNat)
 case atStart => exact ⟨0, Nat.zero_le _, rfl, Below.refl _ _, fun j hj => absurd hj (by omega)⟩
 case round =>
  obtain ⟨k, hk, rfl, hb, hno⟩ := hrel
  by_cases hlt : k < n
  · obtain ⟨x, hx⟩ : ∃ x, gs[k]? = some x := ⟨_, List.getElem?_eq_getElem (by omega)⟩
    obtain ⟨hc1, hc2, hc3, hc4⟩ := (hr.below hb (Nat.le_refl _)).2 k x hx
    have HX := Lib.hid hx
    have HN := Lib.hid hno
    clear hx hno
    go_wp2_with fail
    refine (HP.out x wr (hb.mono hB)).mono ?_
    rintro e w1 ⟨rfl, hb1⟩
    go_wp2_with fail
    · go_ret
      exact ⟨ret_int (firstAt_hit HX.out (by assumption) HN.out).symm, hb.trans (hb1.mono hb.size)⟩
    · go_roundw
      case rel =>
       refine ⟨k + 1, by omega, by go_num, hb.trans (hb1.mono hb.size), fun j hj y hy => ?_⟩
       rcases Nat.lt_or_ge j k with h | h
       · exact HN.out j h y hy
       · obtain rfl : j = k := by omega
         rw [HX.out] at hy
         cases hy
         assumption
      case measure => simp [RowKit.intOf]; omega
  · go_wp2_with fail
    go_ret
    exact ⟨ret_int (firstAt_miss fun j hj x hx => hno j (by omega) x hx).symm, hb⟩
end Go.Proofs.YtbhkbcpljakmjaaGreat

namespace Go.Proofs.YtbhkbcpljakmjaaGreat
set_option linter.unusedVariables false
set_option linter.unusedSimpArgs false
open Go.RowKit
theorem own_below {w w' : World} {base n size : Nat} {e : TypeId} {v : Value} {xs : List Value} (h : w.ownsRow base e size v n xs) (hb : Below w.heap.size w w') : w'.ownsRow base e size v n xs := by
 refine ⟨h.1, ?_⟩
 rcases h.2 with h1 | ⟨g', cap', cur, hv, hg, hh, hr⟩
 · exact .inl h1
 · exact .inr ⟨g', cap', cur, hv, hg, (hb.block g' (lt_of_block hh)).trans hh, hr⟩
theorem zc_len (n : Nat) : (Builtin.zeroCells (Value.cells (.agg #[.int .i64 0, .int .i64 0, .bool false, .int .i64 0])) n).toList.length = n * 4 := by
 rw [show Value.cells (.agg #[.int .i64 0, .int .i64 0, .bool false, .int .i64 0]) = #[.int .i64 0, .int .i64 0, .bool false, .int .i64 0] from rfl]
 simp [Builtin.zeroCells]
theorem zc_one (n : Nat) : ∀ v ∈ (Builtin.zeroCells (Value.cells (.agg #[.int .i64 0, .int .i64 0, .bool false, .int .i64 0])) n).toList, v.oneCell' = true := by
 rw [show Value.cells (.agg #[.int .i64 0, .int .i64 0, .bool false, .int .i64 0]) = #[.int .i64 0, .int .i64 0, .bool false, .int .i64 0] from rfl]
 intro v hv
 simp only [Builtin.zeroCells, Array.toList_map, List.mem_map] at hv
 obtain ⟨t, _, rfl⟩ := hv
 have : t % 4 < 4 := Nat.mod_lt _ (by omega)
 show ((#[.int .i64 0, .int .i64 0, .bool false, .int .i64 0] : Array Value)[t % 4]!).oneCell' = true
 generalize t % 4 = m at this
 match m, this with
 | 0, _ => rfl
 | 1, _ => rfl
 | 2, _ => rfl
 | 3, _ => rfl
theorem zeroCol_run (w : World) : (zeroValue 71).run Tryz.prog w = .ok (.agg #[.int .i64 0, .int .i64 0, .bool false, .int .i64 0]) w := by
 obtain ⟨i0, hi, hz0, hz1, hz2⟩ := info_parts Tryz.infoCol
 simp [zeroValue, typeInfo, hi, hz0]
theorem del_skip {p : Col → Bool} {L : List Col} {j : Nat} {x : Col} (hx : L[j]? = some x) (hp : p x = true) : (L.take (j + 1)).filter (fun x => !p x) = (L.take j).filter (fun x => !p x) := by
 rw [List.take_add_one, hx]; simp [List.filter_append, hp]
theorem del_take {p : Col → Bool} {L : List Col} {j : Nat} {x : Col} (hx : L[j]? = some x) (hp : p x = false) : (L.take (j + 1)).filter (fun x => !p x) = (L.take j).filter (fun x => !p x) ++ [x] := by
 rw [List.take_add_one, hx]; simp [List.filter_append, hp]
theorem del_drop {L M : List Col} {j : Nat} (h : M.drop j = L.drop j) : M.drop (j + 1) = L.drop (j + 1) := by
 have := congrArg (List.drop 1) h
 simpa [List.drop_drop] using this
theorem del_get {L M : List Col} {j : Nat} (h : M.drop j = L.drop j) : M[j]? = L[j]? := by
 have := congrArg (fun l => l[0]?) h
 simpa using this
set_option maxRecDepth 20000 in
theorem deleteC_any (fn : FuncId) (caps : Array Value) (p : Col → Bool) (base g cap n : Nat) (L : List Col) (w : World) (hn : L.length = n) (hn2 : n ≤ 1000)
 (hown : w.ownsRow base 71 4 (.slice (some ⟨g, 0, none⟩) n cap) n (colsCells L)) (hB : base ≤ w.heap.size) (hgo : Goes fn) (hp : ColPred fn caps p base w) :
 Calls Tryz.prog 117 #[.slice (some ⟨g, 0, none⟩) n cap, .func (.func fn) #[] caps] w fun e w' =>
  e = .returned (.slice (some ⟨g, 0, none⟩) (L.filter (fun x => !p x)).length cap) ∧
  w'.ownsRow base 71 4 (.slice (some ⟨g, 0, none⟩) (L.filter (fun x => !p x)).length cap) (L.filter (fun x => !p x)).length (colsCells (L.filter (fun x => !p x))) ∧ Below base w w' := by
 have HP := Lib.hid hp
 obtain ⟨hcap1, hcap2, hbg, hgl⟩ := own_cap hown
 have hcs : CsAt w g 0 L := csAt_of_own (by rw [hn]; exact hown) hgl
 have HI := Lib.hid (indexC_any fn caps p g 0 n cap base L w hn (by omega) hcs hgo hB hp)
 unfold Goes at hgo
 clear hp hcs
 unfold maxLen at hcap2
 go_enter Tryz.func117, Tryz.ntmps117
 go_wp2_with fail
 refine HI.out.mono ?_
 rintro e w1 ⟨rfl, hb1⟩
 have hown1 : w1.ownsRow base 71 4 (.slice (some ⟨g, 0, none⟩) n cap) n (colsCells L) := own_below hown hb1
 cases hf : L.findIdx? p with
 | none =>
  have hfa : firstAt p L = -1 := by unfold firstAt; rw [hf]
  rw [hfa]
  have hfl : L.filter (fun x => !p x) = L := List.filter_eq_self.2 fun y hy => by simp [List.findIdx?_eq_none_iff.1 hf y hy]
  go_wp2
  go_ret
  rw [hfl, hn]
  exact ⟨rfl, hown1, hb1.mono hB⟩
 | some k =>
  have hfa : firstAt p L = (k : Int) := by unfold firstAt; rw [hf]
  obtain ⟨hk', hpk, hlo⟩ := List.findIdx?_eq_some_iff_getElem.1 hf
  have hk : k < n := by omega
  rw [hfa]
  go_wp2_with fail
  go_loopw [5, 6] (fun s t wr => ∃ (i j : Nat) (M : List Col), i < j ∧ j ≤ n ∧ s = .int .i64 i ∧ t = .int .i64 j ∧ M.length = n ∧ wr.ownsRow base 71 4 (.slice (some ⟨g, 0, none⟩) n cap) n (colsCells M) ∧
   M.take i = (L.take j).filter (fun x => !p x) ∧ M.drop j = L.drop j ∧ Below base w wr) (fun _ t _ => n - (RowKit.intOf t).toNat)
  case atStart => 
   refine ⟨k, k + 1, L, by omega, by omega, rfl, by go_num, hn, hown1, ?_, rfl, hb1.mono hB⟩
   rw [del_skip (List.getElem?_eq_getElem hk') hpk, List.filter_eq_self.2]
   intro y hy
   obtain ⟨m, hm, rfl⟩ := List.mem_iff_getElem.1 hy
   rw [List.length_take] at hm
   have := hlo m (by omega)
   rw [List.getElem_take]
   simpa using this
  case round =>
   obtain ⟨i, j, M, hij, hj, rfl, rfl, hM, hownM, htk, hdr, hb⟩ := hrel
   by_cases hlt : j < n
   · obtain ⟨x, hx⟩ : ∃ x, L[j]? = some x := ⟨_, List.getElem?_eq_getElem (by omega)⟩
     have hxM : M[j]? = some x := (del_get hdr).trans hx
     obtain ⟨hc1, hc2, hc3, hc4⟩ := (csAt_of_own (w := wr) (L := M) (by rw [hM]; exact hownM) (own_cap hownM).2.2.2).2 j x hxM
     simp only [Nat.zero_add] at hc1 hc2 hc3 hc4
     go_wp2_with fail
     refine (HP.out x _ (hb.alloc (Nat.le_trans hB hb.size) _)).mono ?_
     rintro e w2 ⟨rfl, hb2⟩
     have hownM2 := hownM.alloc (.cells #[.int .i64 x.1, .int .i64 x.2.1, .bool x.2.2.1, .int .i64 x.2.2.2] 71)
     have hownM3 := own_below hownM2 hb2
     have hb3 : Below base w w2 := (hb.alloc (Nat.le_trans hB hb.size) _).trans (hb2.mono (by have := hb.size; simp; omega))
     have hi : i < n := by omega
     obtain ⟨y, hy⟩ : ∃ y, M[i]? = some y := ⟨_, List.getElem?_eq_getElem (by omega)⟩
     obtain ⟨hd1, hd2, hd3, hd4⟩ := (csAt_of_own (w := w2) (L := M) (by rw [hM]; exact hownM3) (own_cap hownM3).2.2.2).2 i y hy
     simp only [Nat.zero_add] at hd1 hd2 hd3 hd4
     have hf1 := hownM3.frozenAt
     have he1 := keep_cell (b := wr.heap.size) (o := 0) (v := .int .i64 x.1) hb2 (by simp) (by simp)
     have he2 := keep_cell (b := wr.heap.size) (o := 1) (v := .int .i64 x.2.1) hb2 (by simp) (by simp)
     have he3 := keep_cell (b := wr.heap.size) (o := 2) (v := .bool x.2.2.1) hb2 (by simp) (by simp)
     have he4 := keep_cell (b := wr.heap.size) (o := 3) (v := .int .i64 x.2.2.2) hb2 (by simp) (by simp)
     cases hpx : p x with
     | true =>
      go_wp2_with fail
      go_roundw
      case rel =>
       (repeat apply Exists.intro)
       exact ⟨⟨i, j + 1, M, by omega, by omega, rfl, by go_num, hM, hownM3, by rw [htk, del_skip hx hpx], del_drop hdr, hb3⟩, rfl⟩
      case measure => simp [RowKit.intOf]; omega
     | false =>
      clear hownM hownM2 hown hown1 hc1 hc2 hc3 hc4
      go_wp2_with fail
      go_roundw
      case rel =>
       obtain ⟨s1, g1⟩ := hownM3.stored (i * 4) (.int .i64 x.1)
       obtain ⟨s2, g2⟩ := s1.stored (i * 4 + 1) (.int .i64 x.2.1)
       obtain ⟨s3, g3⟩ := s2.stored (i * 4 + 2) (.bool x.2.2.1)
       obtain ⟨s4, g4⟩ := s3.stored (i * 4 + 3) (.int .i64 x.2.2.2)
       rw [← colsCells_set] at s4
       have hbb := (((hb3.grown g1 (Nat.le_trans hB hb3.size) (fun k hk => by cases hk; exact hbg)).grown g2 (by have := hb3.size; simp; omega) (fun k hk => by cases hk; exact hbg)).grown g3 (by have := hb3.size; simp; omega) (fun k hk => by cases hk; exact hbg)).grown g4 (by have := hb3.size; simp; omega) (fun k hk => by cases hk; exact hbg)
       (repeat apply Exists.intro)
       refine ⟨⟨i + 1, j + 1, M.set i x, by omega, by omega, by go_num, by go_num, by simpa using hM, s4, ?_, ?_, hbb⟩, rfl⟩
       · rw [del_take hx hpx, ← htk, List.take_add_one, List.getElem?_set_self (by omega), List.take_set_of_le (Nat.le_refl _)]; rfl
       · rw [List.drop_set_of_lt (by omega)]; exact del_drop hdr
      case measure => simp [RowKit.intOf]; omega
   · obtain rfl : j = n := by omega
     have hsz := zc_len (j - i)
     have hcl := fun ty => run_clear_cells (P := Tryz.prog) wr 66 71 ty (.agg #[.int .i64 0, .int .i64 0, .bool false, .int .i64 0]) rfl zeroCol_run g (i * 4) (j - i) (cap - i) (by omega)
      (zc_one _) (by rw [hsz]; intro t ht; rw [hownM.cellAt _ (by omega), List.getElem?_eq_getElem (by rw [colsCells_len, hM]; omega)]; rfl) (fun t _ => hownM.frozenAt _)
     obtain ⟨us, hus⟩ : ∃ us, us = (Builtin.zeroCells (Value.cells (.agg #[.int .i64 0, .int .i64 0, .bool false, .int .i64 0])) (j - i)).toList := ⟨_, rfl⟩
     rw [← hus] at hcl
     obtain ⟨ys, hys, hpre, hgr⟩ := own_setCells us wr (i * 4) _ hownM
     have hbb := hb.grown hgr (Nat.le_trans hB hb.size) (fun k hk => by cases hk; exact hbg)
     go_wp2_with fail
     go_ret
     have hfl : L.filter (fun x => !p x) = M.take i := by rw [htk, List.take_of_length_le (by omega)]
     have hli : (M.take i).length = i := by rw [List.length_take]; omega
     rw [hfl, hli]
     have htt := own_take (show i ≤ j by omega) hys
     rw [show ys.take (i * 4) = colsCells (M.take i) from by
      rw [← colsCells_take]
      apply List.ext_getElem?
      intro t
      rw [List.getElem?_take, List.getElem?_take]
      split
      · exact hpre t (by assumption)
      · rfl] at htt
     subst hus
     exact ⟨rfl, htt, hbb⟩
end Go.Proofs.YtbhkbcpljakmjaaGreat

namespace Go.Proofs.YtbhkbcpljakmjaaGreat
set_option linter.unusedVariables false
set_option linter.unusedSimpArgs false
open Go.RowKit
theorem cell_new' {w : World} {k i : Nat} {cs : Array Value} {t : TypeId} {v : Value} (hk : k = w.heap.size) (hv : cs[i]? = some v) : (w.alloc (.cells cs t)).cell? ⟨k, i, none⟩ = some v := by subst hk; simp [hv]
end Go.Proofs.YtbhkbcpljakmjaaGreat

namespace Go.Proofs.YtbhkbcpljakmjaaGreat
set_option linter.unusedVariables false
set_option linter.unusedSimpArgs false
open Go.RowKit
theorem mirTo_get (first at_ : Int) (size : Nat) : ∀ (d i : Nat), i ≤ size → ∀ (k : Nat) (x : Col), (mirTo first at_ size d i)[k]? = some x → x = mcol first at_ (k / size) (k % size) ∧ k < d * size + i := by
 intro d
 induction d with
 | zero =>
  intro i
  induction i with
  | zero => intro _ k x h; simp [mirTo] at h
  | succ i ih =>
   intro hi k x h
   rw [mirTo_step, List.getElem?_append] at h
   rw [mirTo_len] at h
   split at h
   · obtain ⟨h1, h2⟩ := ih (by omega) k x h
     exact ⟨h1, by omega⟩
   · have hk : k = i := by
      rcases Nat.lt_or_ge (k - (0 * size + i)) 1 with h1 | h1
      · omega
      · rw [List.getElem?_eq_none (by simpa using h1)] at h; cases h
     subst hk
     simp at h
     subst h
     exact ⟨by rw [Nat.div_eq_of_lt (by omega), Nat.mod_eq_of_lt (by omega)], by omega⟩
 | succ d ihd =>
  intro i
  induction i with
  | zero =>
   intro _ k x h
   rw [mirTo_row] at h
   obtain ⟨h1, h2⟩ := ihd size (Nat.le_refl _) k x h
   exact ⟨h1, by rw [Nat.succ_mul]; omega⟩
  | succ i ih =>
   intro hi k x h
   rw [mirTo_step, List.getElem?_append] at h
   rw [mirTo_len] at h
   split at h
   · obtain ⟨h1, h2⟩ := ih (by omega) k x h
     exact ⟨h1, by omega⟩
   · have hk : k = (d + 1) * size + i := by
      rcases Nat.lt_or_ge (k - ((d + 1) * size + i)) 1 with h1 | h1
      · omega
      · rw [List.getElem?_eq_none (by simpa using h1)] at h; cases h
     subst hk
     simp at h
     subst h
     refine ⟨?_, by omega⟩
     rw [Nat.add_comm ((d + 1) * size) i, Nat.add_mul_div_right _ _ (by omega), Nat.add_mul_mod_self_right, Nat.div_eq_of_lt (by omega), Nat.mod_eq_of_lt (by omega)]
     simp
theorem mirror_get {first at_ : Int} {wide size : Nat} {k : Nat} {x : Col} (h : (mirror first at_ wide size)[k]? = some x) (hs : 0 < size) : x = mcol first at_ (k / size) (k % size) ∧ k / size < wide ∧ k % size < size := by
 obtain ⟨h1, h2⟩ := mirTo_get first at_ size wide 0 (Nat.zero_le _) k x h
 exact ⟨h1, Nat.div_lt_of_lt_mul (by rw [Nat.mul_comm]; omega), Nat.mod_lt _ hs⟩
theorem parTo_get (first wide at_ : Int) : ∀ (n k : Nat) (x : Col), (parTo first wide at_ n)[k]? = some x → ∃ par row, x = pcol first wide at_ k par row := by
 intro n
 induction n with
 | zero => intro k x h; simp [parTo] at h
 | succ n ih =>
  intro k x h
  rw [parTo] at h
  have snoc : ∀ (l : List Col) (par : Bool) (row : Int), (∀ k x, l[k]? = some x → ∃ par row, x = pcol first wide at_ k par row) → ∀ k x, (l ++ [pcol first wide at_ l.length par row])[k]? = some x → ∃ par row, x = pcol first wide at_ k par row := by
   intro l par row hl k x h
   rw [List.getElem?_append] at h
   split at h
   · exact hl k x h
   · have hk : k = l.length := by
      rcases Nat.lt_or_ge (k - l.length) 1 with h1 | h1
      · omega
      · rw [List.getElem?_eq_none (by simpa using h1)] at h; cases h
     subst hk
     simp at h
     exact ⟨par, row, h.symm⟩
  refine snoc _ _ _ ?_ k x h
  intro k x h
  split at h
  · exact snoc _ _ _ ih k x h
  · exact ih k x h
def parCount (wide : Int) : Nat → Nat
 | 0 => 0
 | k + 1 => parCount wide k + (if (k : Int) % (wide - 1) == 0 then 2 else 1)
theorem parTo_count (first wide at_ : Int) (k : Nat) : (parTo first wide at_ k).length = parCount wide k := by
 induction k with
 | zero => rfl
 | succ k ih =>
  rw [parTo, parCount]
  split <;> simp [ih]
theorem parCount_le {wide : Int} {k : Nat} (h1 : 3 ≤ wide) (h2 : wide ≤ 8) (hk : k ≤ 4) : (parCount wide k : Int) ≤ gTake1 (1, wide) k ∧ (parCount wide k : Int) = k + (k + wide - 2) / (wide - 1) := by
 have hw : wide = 3 ∨ wide = 4 ∨ wide = 5 ∨ wide = 6 ∨ wide = 7 ∨ wide = 8 := by omega
 have hk' : k = 0 ∨ k = 1 ∨ k = 2 ∨ k = 3 ∨ k = 4 := by omega
 rcases hw with rfl | rfl | rfl | rfl | rfl | rfl <;> rcases hk' with rfl | rfl | rfl | rfl | rfl <;> decide
theorem gTakes_true {gs : List (Int × Int)} {secs g size : Int} (h : gHas gs secs g = true) (h1 : 1 ≤ size) (h2 : size ≤ 4) : gTakes gs secs g size = gTake1 (grAt gs g) size := by
 unfold gTakes; rw [h, decide_eq_true h1, decide_eq_true h2]; rfl
def Lies (x : Int × Int) (F : Int) (pa : Int) (len : Int) (c : Col) (t : Int) : Prop :=
 0 ≤ t ∧ t < len ∧ ((x.1 = 0 ∧ F ≤ c.1 ∧ c.1 < F + x.2 ∧ c.2.1 = 16 + (pa + t)) ∨ (x.1 = 1 ∧ c.1 = F + (pa + t) % x.2 ∧ c.2.1 = 16 + (pa + t) / x.2))
theorem cols_lie {gs : List (Int × Int)} {secs pg pa size : Int} (h : cMay gs secs pg pa size = true) {k : Nat} {c : Col} (hc : (colsOf gs secs pg pa size)[k]? = some c) :
 ∃ t : Int, Lies (grAt gs pg) (gFirst gs secs pg) pa (gTakes gs secs pg size) c t ∧ ((grAt gs pg).1 = 1 → t = k) ∧ ((grAt gs pg).1 = 0 → c.1 = gFirst gs secs pg + ((k : Int) / size) ∧ t = (k : Int) % size) := by
 obtain ⟨hhas, hz1, hz2, hp1, hp2, hpos⟩ := cMay_true h
 obtain ⟨sz, rfl⟩ := Int.eq_ofNat_of_zero_le (show 0 ≤ size by omega)
 obtain ⟨g, x, rfl, hk, hl4, hs1, hs2, hx, hgx, ho⟩ := gHas_true hhas
 rw [gTakes_true hhas hz1 hz2, hgx]
 unfold colsOf at hc
 rw [hgx] at hc
 obtain ⟨kd, wd⟩ := x
 rcases gOne_true ho with ⟨e, hw1, hw2⟩ | ⟨e, hw1, hw2⟩
 · simp only at e hw1 hw2
   subst e
   obtain ⟨wn, rfl⟩ := Int.eq_ofNat_of_zero_le (show 0 ≤ wd by omega)
   simp only [beq_self_eq_true, if_true, Int.toNat_natCast] at hc
   obtain ⟨hm, h1, h2⟩ := mirror_get hc (by omega)
   refine ⟨(k % sz : Nat), ⟨by omega, by simp [gTake1]; omega, .inl ⟨rfl, ?_, ?_, ?_⟩⟩, by simp, fun _ => ⟨?_, by simp⟩⟩
   · rw [hm]; exact Int.le_add_of_nonneg_right (Int.natCast_nonneg _)
   · rw [hm]; simp only [mcol]; omega
   · rw [hm]; simp only [mcol]; omega
   · rw [hm]; simp [mcol]
 · simp only at e hw1 hw2
   subst e
   simp only [show ((1 : Int) == 0) = false from rfl, Bool.false_eq_true, if_false, Int.toNat_natCast] at hc
   obtain ⟨par, row, hm⟩ := parTo_get _ _ _ _ _ _ hc
   have hkl : k < parCount wd sz := by
    rw [← parTo_count (gFirst gs secs g) wd pa]
    exact (List.getElem?_eq_some_iff.1 hc).1
   have := (parCount_le hw1 hw2 (show sz ≤ 4 by omega)).1
   refine ⟨k, ⟨by omega, by omega, .inr ⟨rfl, ?_, ?_⟩⟩, fun _ => rfl, by simp⟩
   · rw [hm]; simp [pcol]
   · rw [hm]; simp [pcol]
theorem gSum_mono {gs : List (Int × Int)} {secs : Int} (hr : gRight gs secs = true) {i j : Nat} (hij : i ≤ j) : gSum (gs.take i) ≤ gSum (gs.take j) := by
 induction j with
 | zero =>
  obtain rfl : i = 0 := by omega
  exact Int.le_refl _
 | succ j ih =>
  rcases Nat.lt_or_ge i (j + 1) with h | h
  · have h1 := ih (by omega)
    rcases Nat.lt_or_ge j gs.length with hj | hj
    · have hx := List.getElem?_eq_getElem hj
      rw [gSum_take hx]
      have := gOne_true ((gRight_parts hr).2.2.2.2 _ (List.getElem_mem hj))
      omega
    · rw [List.take_of_length_le (show gs.length ≤ j + 1 by omega)]
      rw [List.take_of_length_le hj] at h1
      exact h1
  · obtain rfl : i = j + 1 := by omega
    exact Int.le_refl _
theorem first_next {gs : List (Int × Int)} {secs : Int} {g k : Nat} {x : Int × Int} (hr : gRight gs secs = true) (hx : gs[g]? = some x) (hk : g < k) : gSum (gs.take g) + x.2 ≤ gSum (gs.take k) := by
 rw [← gSum_take hx]
 exact gSum_mono hr (by omega)
theorem gFirst_true {gs : List (Int × Int)} {secs : Int} {g : Nat} (h : gHas gs secs g = true) : gFirst gs secs g = gSum (gs.take g) := by
 unfold gFirst; rw [h]; simp
theorem lies_dev {gs : List (Int × Int)} {secs pa len t : Int} {g : Nat} {x : Int × Int} {c : Col} (hhas : gHas gs secs g = true) (hx : gs[g]? = some x) (ho : gOne x = true)
 (hl : Lies x (gFirst gs secs g) pa len c t) : gSum (gs.take g) ≤ c.1 ∧ c.1 < gSum (gs.take g) + x.2 := by
 rw [gFirst_true hhas] at hl
 have := gOne_true ho
 obtain ⟨_, _, h | h⟩ := hl
 · exact ⟨h.2.1, h.2.2.1⟩
 · have h1 := Int.emod_nonneg (pa + t) (show x.2 ≠ 0 by omega)
   have h2 := Int.emod_lt_of_pos (pa + t) (show 0 < x.2 by omega)
   omega
theorem gHas_right {gs : List (Int × Int)} {secs g : Int} (h : gHas gs secs g = true) : gRight gs secs = true := by
 simp only [gHas, Bool.and_eq_true] at h; exact h.1.1
theorem lies_in {gs : List (Int × Int)} {secs pg pa size t : Int} {c : Col} (h : cMay gs secs pg pa size = true) (hl : Lies (grAt gs pg) (gFirst gs secs pg) pa (gTakes gs secs pg size) c t) :
 0 ≤ c.1 ∧ c.1 < gDevs gs secs ∧ 16 ≤ c.2.1 ∧ c.2.1 < secs := by
 obtain ⟨hhas, hz1, hz2, hp1, hp2, hpos⟩ := cMay_true h
 obtain ⟨g, x, rfl, hk, hl4, hs1, hs2, hx, hgx, ho⟩ := gHas_true hhas
 have hr := gHas_right hhas
 rw [hgx] at hl
 obtain ⟨h1, h2⟩ := lies_dev hhas hx ho hl
 have h3 := first_next hr hx hk
 rw [List.take_of_length_le (Nat.le_refl _)] at h3
 have h4 := (sum_take_bd hr g).1
 have h5 : gDevs gs secs = gSum gs := by unfold gDevs; rw [hr]; rfl
 have hS : gSectors gs secs g = if x.1 == 1 then (secs - 16) * x.2 else secs - 16 := by unfold gSectors; rw [hhas, hgx]; rfl
 rw [hS] at hp2
 refine ⟨by omega, by omega, ?_⟩
 obtain ⟨ht1, ht2, ⟨e, _, _, ha⟩ | ⟨e, _, ha⟩⟩ := hl
 · rw [e] at hp2; simp at hp2; omega
 · rw [e] at hp2
   simp only [beq_self_eq_true, if_true] at hp2
   have hw := gOne_true ho
   have hq1 : 0 ≤ (pa + t) / x.2 := Int.ediv_nonneg (by omega) (by omega)
   have hq2 : (pa + t) / x.2 < secs - 16 := Int.ediv_lt_of_lt_mul (by omega) (by omega)
   omega
theorem lies_same {x : Int × Int} {F pa qa n m s t : Int} {c d : Col} (ho : gOne x = true) (hpa : 0 ≤ pa) (hqa : 0 ≤ qa) (hc : Lies x F pa n c s) (hd : Lies x F qa m d t) (h1 : c.1 = d.1) (h2 : c.2.1 = d.2.1) : pa + s = qa + t := by
 have hw := gOne_true ho
 obtain ⟨a1, a2, a3⟩ := hc
 obtain ⟨b1, b2, b3⟩ := hd
 rcases a3 with ⟨e, _, _, ha⟩ | ⟨e, ha, ha'⟩ <;> rcases b3 with ⟨e', _, _, hb⟩ | ⟨e', hb, hb'⟩
 · omega
 · omega
 · omega
 · have r1 := Int.emod_add_mul_ediv (pa + s) x.2
   have r2 := Int.emod_add_mul_ediv (qa + t) x.2
   have e1 : (pa + s) % x.2 = (qa + t) % x.2 := by omega
   have e2 : (pa + s) / x.2 = (qa + t) / x.2 := by omega
   rw [e1, e2] at r1
   omega
def apartB (gs : List (Int × Int)) (secs pg pa qg qa a b : Int) : Bool := (pg != qg) || (decide (pa + gTakes gs secs pg a ≤ qa) || decide (qa + gTakes gs secs qg b ≤ pa))
theorem apart_pure {gs : List (Int × Int)} {secs pg pa qg qa a b : Int} (hp : cMay gs secs pg pa a = true) (hq : cMay gs secs qg qa b = true) :
 (∀ (i : Nat) (x : Col), (colsOf gs secs pg pa a)[i]? = some x → 0 ≤ x.1 ∧ x.1 < gDevs gs secs ∧ 16 ≤ x.2.1 ∧ x.2.1 < secs) ∧
 (∀ (i k : Nat) (x y : Col), k < i → (colsOf gs secs pg pa a)[i]? = some x → (colsOf gs secs pg pa a)[k]? = some y → ¬ (x.1 = y.1 ∧ x.2.1 = y.2.1)) ∧
 (apartB gs secs pg pa qg qa a b = true → ∀ (i k : Nat) (x y : Col), (colsOf gs secs pg pa a)[i]? = some x → (colsOf gs secs qg qa b)[k]? = some y → ¬ (x.1 = y.1 ∧ x.2.1 = y.2.1)) := by
 obtain ⟨hhas, hz1, hz2, hp1, hp2, hpos⟩ := cMay_true hp
 obtain ⟨hhas', hz1', hz2', hp1', hp2', hpos'⟩ := cMay_true hq
 obtain ⟨g, x0, hg, hk, hl4, hs1, hs2, hx0, hgx, ho⟩ := gHas_true hhas
 obtain ⟨g', x1, hg', hk', _, _, _, hx1, hgx', ho'⟩ := gHas_true hhas'
 refine ⟨fun i x hx => ?_, fun i k x y hki hx hy ⟨h1, h2⟩ => ?_, fun hap i k x y hx hy ⟨h1, h2⟩ => ?_⟩
 · obtain ⟨t, hl, _⟩ := cols_lie hp hx
   exact lies_in hp hl
 · obtain ⟨t, hl, hpar, hmir⟩ := cols_lie hp hx
   obtain ⟨s, hl', hpar', hmir'⟩ := cols_lie hp hy
   subst hg
   rw [hgx] at hl hl' hpar hpar' hmir hmir'
   have := lies_same ho hp1 hp1 hl hl' h1 h2
   rcases gOne_true ho with ⟨e, _, _⟩ | ⟨e, _, _⟩
   · obtain ⟨m1, m2⟩ := hmir e
     obtain ⟨n1, n2⟩ := hmir' e
     have r1 := Int.emod_add_mul_ediv (i : Int) a
     have r2 := Int.emod_add_mul_ediv (k : Int) a
     have e1 : (i : Int) % a = (k : Int) % a := by omega
     have e2 : (i : Int) / a = (k : Int) / a := by omega
     rw [e1, e2] at r1
     omega
   · have := hpar e
     have := hpar' e
     omega
 · obtain ⟨t, hl, _⟩ := cols_lie hp hx
   obtain ⟨s, hl', _⟩ := cols_lie hq hy
   subst hg hg'
   rw [hgx] at hl
   rw [hgx'] at hl'
   obtain ⟨d1, d2⟩ := lies_dev hhas hx0 ho hl
   obtain ⟨d3, d4⟩ := lies_dev hhas' hx1 ho' hl'
   rcases Nat.lt_trichotomy g g' with hlt | rfl | hlt
   · have := first_next (gHas_right hhas) hx0 hlt
     omega
   · rw [hx0] at hx1
     injection hx1 with hx1
     subst hx1
     have hxx := lies_same ho hp1 hp1' hl hl' h1 h2
     simp only [apartB, Bool.or_eq_true, decide_eq_true_eq] at hap
     obtain ⟨a1, a2, _⟩ := hl
     obtain ⟨b1, b2, _⟩ := hl'
     rcases hap with h | h | h
     · simp at h
     · omega
     · omega
   · have := first_next (gHas_right hhas) hx1 hlt
     omega
end Go.Proofs.YtbhkbcpljakmjaaGreat

namespace Go.Proofs.YtbhkbcpljakmjaaGreat
set_option linter.unusedVariables false
set_option linter.unusedSimpArgs false
open Go.RowKit
end Go.Proofs.YtbhkbcpljakmjaaGreat

namespace Go.Proofs.YtbhkbcpljakmjaaGreat
set_option linter.unusedVariables false
set_option linter.unusedSimpArgs false
open Go.RowKit
theorem parTo_shape (first wide at_ : Int) (n : Nat) : (parTo first wide at_ n).map (·.2.2) = (parTo 0 wide 0 n).map (·.2.2) := by
 induction n with
 | zero => rfl
 | succ k ih => by_cases h : ((k : Int) % (wide - 1) == 0) = true <;> simp [parTo, h, pcol, ih]
theorem mirror_shape (first at_ : Int) (w s : Nat) : (mirror first at_ w s).map (·.2.2) = (mirror 0 0 w s).map (·.2.2) := by
 simp [mirror, mirTo, mcol, List.map_flatMap, Function.comp_def]
end Go.Proofs.YtbhkbcpljakmjaaGreat

namespace Go.Proofs.YtbhkbcpljakmjaaGreat
set_option linter.unusedVariables false
set_option linter.unusedSimpArgs false
open Go.RowKit
theorem nodup_sub : ∀ (l l' : List Int), l.Nodup → (∀ x ∈ l, x ∈ l') → l.length ≤ l'.length
 | [], _, _, _ => Nat.zero_le _
 | x :: l, l', hn, hs => by
   have hx : x ∈ l' := hs x List.mem_cons_self
   have h2 := List.nodup_cons.1 hn
   have := nodup_sub l (l'.erase x) h2.2 (fun y hy => (List.mem_erase_of_ne (fun e => h2.1 (by rw [← e]; exact hy))).2 (hs y (List.mem_cons_of_mem _ hy)))
   rw [List.length_erase_of_mem hx] at this
   have hp := List.length_pos_of_mem hx
   rw [List.length_cons]
   omega
theorem MapAt.len_eq {P : Program} {kt t et ty : TypeId} {w : World} {b n : Nat} {f : Int → Option Value} (h : MapAt P kt w b n f) (hk : P.underlying kt = some (.int .i64)) (ht : P.underlying t = some (.map kt et)) {l : List Int} (hn : l.Nodup) (hm : ∀ x, x ∈ l ↔ (f x).isSome = true) :
 (Builtin.len_ #[t] ty #[.map (some b)]).run P w = .ok (.int .i64 (l.length : Nat)) w := by
 obtain ⟨D, ho, hf⟩ := h
 obtain ⟨h1, h2, h3⟩ := mapAt_keys ho hk hf
 have e : Maps.size D = l.length := by
  rw [h3]
  exact Nat.le_antisymm (nodup_sub _ _ h1 (fun x hx => (hm x).2 ((h2 x).1 hx))) (nodup_sub _ _ hn (fun x hx => (h2 x).2 ((hm x).1 hx)))
 have := ho.len ht ty
 rw [e] at this
 exact this
def hereD (aw : List Bool) (ds : List DevD) (i : Nat) : Bool := !(aw.getD i false) && match ds[i]? with
 | some d => !d.lost
 | none => false
def putD (aw : List Bool) (ds : List DevD) (c : Col) (t : List UInt8) : List DevD := match ds[c.1.toNat]? with
 | none => ds
 | some d => if !(aw.getD c.1.toNat false) && !d.lost then ds.set c.1.toNat (d.wr c.2.1 t) else ds
def wrTo (aw : List Bool) (L : List Col) (T : List (List UInt8)) (ds : List DevD) : Nat → List DevD
 | 0 => ds
 | k + 1 => match L[k]?, T[k]? with
   | some c, some t => putD aw (wrTo aw L T ds k) c t
   | _, _ => wrTo aw L T ds k
def DsOk (N secs : Nat) (ds : List DevD) : Prop := ∀ d ∈ ds, d.Ok ∧ d.med.length = secs ∧ d.fuse = -1 ∧ ∀ k, (d.cac k).length ≤ N
theorem wr_lost (d : DevD) (a : Int) (s : List UInt8) : (d.wr a s).lost = d.lost := by unfold DevD.wr; split <;> rfl
theorem wr_fuse {d : DevD} (a : Int) (s : List UInt8) (h : d.fuse = -1) : (d.wr a s).fuse = -1 := by
 unfold DevD.wr
 split
 · show max (d.fuse - 1) (-1) = -1
   omega
 · exact h
section
variable {aw : List Bool} {ds : List DevD} {L : List Col} {T : List (List UInt8)} {c : Col} {t : List UInt8}
theorem putD_len : (putD aw ds c t).length = ds.length := by
 unfold putD
 split
 · rfl
 · split
   · rw [List.length_set]
   · rfl
theorem wrTo_len : ∀ k, (wrTo aw L T ds k).length = ds.length
 | 0 => rfl
 | k + 1 => by
   rw [wrTo]
   split
   · rw [putD_len, wrTo_len k]
   · exact wrTo_len k
theorem DsOk.mono {N M secs : Nat} (h : DsOk N secs ds) (hm : N ≤ M) : DsOk M secs ds := fun d hd => ⟨(h d hd).1, (h d hd).2.1, (h d hd).2.2.1, fun k => Nat.le_trans ((h d hd).2.2.2 k) hm⟩
theorem putD_ok {N secs : Nat} (h : DsOk N secs ds) : DsOk (N + 1) secs (putD aw ds c t) := by
 unfold putD
 split
 · exact h.mono (Nat.le_succ _)
 · rename_i d hd
   split
   · intro e he
     rcases List.mem_or_eq_of_mem_set he with he | rfl
     · exact h.mono (Nat.le_succ _) e he
     · obtain ⟨h1, h2, h3, h4⟩ := h d (List.mem_of_getElem? hd)
       exact ⟨h1.wr _ _, by rw [DevD.wr_med]; exact h2, wr_fuse _ _ h3, fun k => Nat.le_trans (DevD.wr_len d _ _ k) (Nat.succ_le_succ (h4 k))⟩
   · exact h.mono (Nat.le_succ _)
theorem wrTo_ok {N secs : Nat} (h : DsOk N secs ds) : ∀ k, DsOk (N + k) secs (wrTo aw L T ds k)
 | 0 => h
 | k + 1 => by
   rw [wrTo]
   split
   · exact putD_ok (wrTo_ok h k)
   · exact (wrTo_ok h k).mono (by omega)
theorem putD_lost (i : Nat) : ((putD aw ds c t)[i]?).map DevD.lost = (ds[i]?).map DevD.lost := by
 unfold putD
 split
 · rfl
 · rename_i d hd
   split
   · by_cases e : c.1.toNat = i
     · subst e
       rw [List.getElem?_set, if_pos rfl, if_pos (List.getElem?_eq_some_iff.1 hd).1, hd]
       simp [wr_lost]
     · rw [List.getElem?_set, if_neg e]
   · rfl
theorem wrTo_lost (i : Nat) : ∀ k, ((wrTo aw L T ds k)[i]?).map DevD.lost = (ds[i]?).map DevD.lost
 | 0 => rfl
 | k + 1 => by
   rw [wrTo]
   split
   · rw [putD_lost, wrTo_lost i k]
   · exact wrTo_lost i k
theorem wrTo_at {k i : Nat} {e : DevD} (h : (wrTo aw L T ds k)[i]? = some e) : hereD aw ds i = (!(aw.getD i false) && !e.lost) := by
 have := wrTo_lost (aw := aw) (L := L) (T := T) (ds := ds) i k
 rw [h] at this
 unfold hereD
 cases hd : ds[i]? with
 | none => rw [hd] at this; cases this
 | some d => rw [hd] at this; simp at this; rw [this]
end
def failF (L : List Col) (hs : Nat → Bool) (k : Nat) : Int → Option Value := fun j => if (L.take k).any (fun c => c.1 == j && !hs c.1.toNat) then some (.bool true) else none
theorem failF_zero (L : List Col) (hs : Nat → Bool) : failF L hs 0 = fun _ => none := by
 funext j
 simp [failF]
theorem fail_any {L : List Col} {hs : Nat → Bool} {k : Nat} {c : Col} (hc : L[k]? = some c) (j : Int) : ((L.take (k + 1)).any fun c => c.1 == j && !hs c.1.toNat) = (((L.take k).any fun c => c.1 == j && !hs c.1.toNat) || (c.1 == j && !hs c.1.toNat)) := by
 rw [List.take_add_one, hc, List.any_append]
 simp
theorem failF_yes {L : List Col} {hs : Nat → Bool} {k : Nat} {c : Col} (hc : L[k]? = some c) (hh : hs c.1.toNat = false) : failF L hs (k + 1) = fun j => if j = c.1 then some (.bool true) else failF L hs k j := by
 funext j
 unfold failF
 rw [fail_any hc, hh]
 by_cases e : j = c.1
 · subst e; simp
 · have e2 : (c.1 == j) = false := by rw [beq_eq_false_iff_ne]; exact fun h => e h.symm
   rw [e2, if_neg e, Bool.false_and, Bool.or_false]
theorem failF_no {L : List Col} {hs : Nat → Bool} {k : Nat} {c : Col} (hc : L[k]? = some c) (hh : hs c.1.toNat = true) : failF L hs (k + 1) = failF L hs k := by
 funext j
 unfold failF
 rw [fail_any hc, hh, Bool.not_true, Bool.and_false, Bool.or_false]
def failL (L : List Col) (hs : Nat → Bool) (n : Nat) : List Nat := (List.range n).filter fun d => (L.any fun c => c.1 == (d : Int)) && !hs d
def failN (L : List Col) (hs : Nat → Bool) (n : Nat) : Nat := (failL L hs n).length
theorem failF_keys {L : List Col} {hs : Nat → Bool} {n : Nat} (hin : ∀ c ∈ L, 0 ≤ c.1 ∧ c.1 < n) : ((failL L hs n).map fun (d : Nat) => (d : Int)).Nodup ∧ ∀ x, x ∈ ((failL L hs n).map fun (d : Nat) => (d : Int)) ↔ (failF L hs L.length x).isSome = true := by
 refine ⟨?_, fun x => ?_⟩
 · exact List.pairwise_map.2 (((List.nodup_range).filter _).imp (fun h e => h (by omega)))
 · unfold failF failL
   rw [List.take_length]
   constructor
   · intro hx
     obtain ⟨d, hd, rfl⟩ := List.mem_map.1 hx
     obtain ⟨_, h2⟩ := List.mem_filter.1 hd
     simp only [Bool.and_eq_true, List.any_eq_true, beq_iff_eq] at h2
     obtain ⟨⟨c, hc, e⟩, h3⟩ := h2
     rw [if_pos]
     · rfl
     · rw [List.any_eq_true]
       exact ⟨c, hc, by rw [e, Int.toNat_natCast, h3]; simp⟩
   · intro hx
     split at hx
     · rename_i h
       obtain ⟨c, hc, h2⟩ := List.any_eq_true.1 h
       simp only [Bool.and_eq_true, beq_iff_eq] at h2
       obtain ⟨e, h3⟩ := h2
       obtain ⟨h4, h5⟩ := hin c hc
       refine List.mem_map.2 ⟨c.1.toNat, List.mem_filter.2 ⟨List.mem_range.2 (by omega), ?_⟩, by omega⟩
       rw [h3, Bool.and_true, List.any_eq_true]
       exact ⟨c, hc, by rw [beq_iff_eq]; omega⟩
     · cases hx
end Go.Proofs.YtbhkbcpljakmjaaGreat

namespace Go.Proofs.YtbhkbcpljakmjaaGreat
set_option linter.unusedVariables false
set_option linter.unusedSimpArgs false
theorem par_data : ∀ w ∈ List.range 9, ∀ s ∈ List.range 5, 3 ≤ w → 0 < s → (((parTo 0 w 0 s).map (·.2.2)).all fun c => !c.1 || ((parTo 0 w 0 s).map (·.2.2)).any fun c' => !c'.1 && c'.2 == c.2) = true := by decide +kernel
theorem mir_data : ∀ w ∈ List.range 9, ∀ s ∈ List.range 5, 0 < w → 0 < s → (((mirror 0 0 w s).map (·.2.2)).all fun c => !c.1 || ((mirror 0 0 w s).map (·.2.2)).any fun c' => !c'.1 && c'.2 == c.2) = true := by decide +kernel
theorem data_shape {gs : List (Int × Int)} {secs pg pa size : Int} (h : cMay gs secs pg pa size = true) {c : Col} (hc : c ∈ colsOf gs secs pg pa size) (hp : c.2.2.1 = true) : ∃ e ∈ colsOf gs secs pg pa size, e.2.2.1 = false ∧ e.2.2.2 = c.2.2.2 := by
 have key : (((colsOf gs secs pg pa size).map (·.2.2)).all fun c => !c.1 || ((colsOf gs secs pg pa size).map (·.2.2)).any fun c' => !c'.1 && c'.2 == c.2) = true := by
  obtain ⟨hhas, hz1, hz2, hp1, hp2, _⟩ := cMay_true h
  obtain ⟨sz, rfl⟩ := Int.eq_ofNat_of_zero_le (show 0 ≤ size by omega)
  obtain ⟨g, x, rfl, hk, hl4, hs1, hs2, hx, hgx, ho⟩ := gHas_true hhas
  obtain ⟨kd, wd⟩ := x
  have ho' := gOne_true ho
  simp only at ho'
  obtain ⟨w, rfl⟩ := Int.eq_ofNat_of_zero_le (show 0 ≤ wd by omega)
  rcases ho' with ⟨rfl, h1, h2⟩ | ⟨rfl, h1, h2⟩
  · have : colsOf gs secs g pa sz = mirror (gFirst gs secs g) pa w sz := by unfold colsOf; rw [hgx]; rfl
    rw [this, mirror_shape]
    exact mir_data w (by simp; omega) sz (by simp; omega) (by omega) (by omega)
  · have : colsOf gs secs g pa sz = parTo (gFirst gs secs g) w pa sz := by unfold colsOf; rw [hgx]; rfl
    rw [this, parTo_shape]
    exact par_data w (by simp; omega) sz (by simp; omega) (by omega) (by omega)
 have h1 := List.all_eq_true.1 key c.2.2 (List.mem_map.2 ⟨c, hc, rfl⟩)
 rw [hp, Bool.not_true, Bool.false_or, List.any_eq_true] at h1
 obtain ⟨y, hy, h2⟩ := h1
 obtain ⟨e, he, rfl⟩ := List.mem_map.1 hy
 simp only [Bool.and_eq_true, Bool.not_eq_true', beq_iff_eq] at h2
 exact ⟨e, he, h2⟩
theorem mem_rowIx {L : List Col} {no : Int} {i : Nat} {c : Col} (h : L[i]? = some c) (h1 : c.2.2.2 = no) (h2 : c.2.2.1 = false) : i ∈ rowIx L no := by
 unfold rowIx
 refine List.mem_filter.2 ⟨List.mem_range.2 (List.getElem?_eq_some_iff.1 h).1, ?_⟩
 simp [h, h1, h2]
theorem even_all {l : List (List UInt8)} {n : Nat} (hne : l ≠ []) (h : ∀ x ∈ l, x.length = n) : (makeS l).length = n := by
 have hh : (l.headD []).length = n := by
  cases l with
  | nil => exact absurd rfl hne
  | cons a r => exact h a List.mem_cons_self
 have he : evenB l = true := by
  unfold evenB
  rw [List.all_eq_true]
  intro x hx
  rw [h x hx, hh]
  exact beq_self_eq_true _
 unfold makeS
 rw [if_pos ⟨hne, he⟩, parN_len (fun x hx => by rw [h x hx, hh]), hh]
theorem outD_64 {L : List Col} {data : List (List UInt8)} (h0 : 0 < data.length) (h : ∀ x ∈ data, x.length = 64) {i : Nat} {c : Col} (hc : L[i]? = some c) (hp : c.2.2.1 = false) : (outD L data i).length = 64 := by
 rw [outD_data hc hp, List.getD_eq_getElem?_getD]
 have hlt : dataCnt L i % data.length < data.length := Nat.mod_lt _ h0
 rw [List.getElem?_eq_getElem hlt]
 exact h _ (List.getElem_mem hlt)
theorem encL_64 {gs : List (Int × Int)} {secs pg pa : Int} {s : List UInt8} (h : cMay gs secs pg pa (secN s) = true) : ∀ t ∈ encL gs secs pg pa s, t.length = 64 := by
 have h0 : 0 < (secsL s).length := by
  rw [secsL_len]
  have := (cMay_true h).2.1
  omega
 have h64 : ∀ x ∈ secsL s, x.length = 64 := fun x hx => by
  obtain ⟨i, hi⟩ := List.mem_iff_getElem?.1 hx
  have hil : i < secN s := by have := (List.getElem?_eq_some_iff.1 hi).1; rwa [secsL_len] at this
  rw [secsL_at hil] at hi
  cases hi
  exact secAt_len hil
 intro t ht
 unfold encL at ht
 rw [show ofList gs secs pg pa (secN s) = colsOf gs secs pg pa (secN s) by unfold ofList; rw [if_pos h]] at ht
 obtain ⟨i, hi, rfl⟩ := List.mem_map.1 ht
 have hi := List.mem_range.1 hi
 have hc := List.getElem?_eq_getElem hi
 obtain ⟨c, hcc⟩ : ∃ c, (colsOf gs secs pg pa (secN s))[i]? = some c := ⟨_, hc⟩
 cases hp : c.2.2.1 with
 | false => rw [outE_data hcc hp]; exact outD_64 h0 h64 hcc hp
 | true =>
  rw [outE_par hcc hp]
  obtain ⟨e, he, h1, h2⟩ := data_shape h (List.mem_of_getElem? hcc) hp
  obtain ⟨j, hj⟩ := List.mem_iff_getElem?.1 he
  refine even_all (fun hn => ?_) (fun x hx => ?_)
  · have := mem_rowIx hj h2 h1
    rw [List.map_eq_nil_iff] at hn
    rw [hn] at this
    cases this
  · obtain ⟨q, hq, rfl⟩ := List.mem_map.1 hx
    obtain ⟨f, hf, _, hff⟩ := rowIx_spec hq
    exact outD_64 h0 h64 hf hff
theorem encL_len (gs : List (Int × Int)) (secs pg pa : Int) (s : List UInt8) : (encL gs secs pg pa s).length = (ofList gs secs pg pa (secN s)).length := by
 unfold encL
 rw [List.length_map, List.length_range]
theorem encE_zero {gs : List (Int × Int)} {secs pg pa : Int} {s : List UInt8} (h : encE gs secs pg pa s = 0) : secOk s = true ∧ cMay gs secs pg pa (secN s) = true ∧ encS gs secs pg pa s = encL gs secs pg pa s := by
 unfold encE at h
 cases hs : secOk s with
 | false => rw [hs] at h; simp at h
 | true =>
  rw [hs] at h
  simp only [if_true] at h
  refine ⟨rfl, ?_, by unfold encS; rw [hs, h]; rfl⟩
  unfold ofErr at h
  split at h
  · assumption
  · cases h
theorem encE_one {gs : List (Int × Int)} {secs pg pa : Int} {s : List UInt8} (h : encE gs secs pg pa s ≠ 0) : encE gs secs pg pa s = 1 := by
 unfold encE at *
 split
 · rename_i hs
   rw [if_pos hs] at h
   unfold ofErr at *
   split
   · rename_i h1; rw [if_pos h1] at h; exact absurd rfl h
   · rfl
 · rfl
end Go.Proofs.YtbhkbcpljakmjaaGreat
