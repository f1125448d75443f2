/-
  slices.DeleteFunc at Col.
-/
import Derived.Test.YthkeibeelncgkaaData
namespace Go.Proofs.Ythkeibeelncgkaa
open Go.RowKit
set_option linter.unusedVariables false

theorem own_below {w w' : World} {base n size : Nat} {e : TypeId} {v : Value} {xs : List Value} (h : w.ownsRow base e size v n xs) (hb : Below w.heap.size w w') : w'.ownsRow base e size v n xs := by
  refine ⟨h.1, ?_⟩
  rcases h.2 with h1 | ⟨g', cap', cur, hv, hg, hh, hr⟩
  · exact .inl h1
  · exact .inr ⟨g', cap', cur, hv, hg, (hb.block g' (lt_of_block hh)).trans hh, hr⟩

theorem zc_len (n : Nat) : (Builtin.zeroCells (Value.cells (.agg #[.int .i64 0, .int .i64 0, .bool false, .int .i64 0])) n).toList.length = n * 4 := by
  rw [show Value.cells (.agg #[.int .i64 0, .int .i64 0, .bool false, .int .i64 0]) = #[.int .i64 0, .int .i64 0, .bool false, .int .i64 0] from rfl]
  simp [Builtin.zeroCells]
theorem zc_one (n : Nat) : ∀ v ∈ (Builtin.zeroCells (Value.cells (.agg #[.int .i64 0, .int .i64 0, .bool false, .int .i64 0])) n).toList, v.oneCell' = true := by
  rw [show Value.cells (.agg #[.int .i64 0, .int .i64 0, .bool false, .int .i64 0]) = #[.int .i64 0, .int .i64 0, .bool false, .int .i64 0] from rfl]
  intro v hv
  simp only [Builtin.zeroCells, Array.toList_map, List.mem_map] at hv
  obtain ⟨t, _, rfl⟩ := hv
  have : t % 4 < 4 := Nat.mod_lt _ (by omega)
  show ((#[.int .i64 0, .int .i64 0, .bool false, .int .i64 0] : Array Value)[t % 4]!).oneCell' = true
  generalize t % 4 = m at this
  match m, this with
  | 0, _ => rfl
  | 1, _ => rfl
  | 2, _ => rfl
  | 3, _ => rfl
theorem zeroCol_run (w : World) : (zeroValue 34).run Try.prog w = .ok (.agg #[.int .i64 0, .int .i64 0, .bool false, .int .i64 0]) w := by
  obtain ⟨i0, hi, hz0, hz1, hz2⟩ := info_parts Try.infoCol
  simp [zeroValue, typeInfo, hi, hz0]

theorem del_skip {p : Col → Bool} {L : List Col} {j : Nat} {x : Col} (hx : L[j]? = some x) (hp : p x = true) : (L.take (j + 1)).filter (fun x => !p x) = (L.take j).filter (fun x => !p x) := by
  rw [List.take_add_one, hx]; simp [List.filter_append, hp]
theorem del_take {p : Col → Bool} {L : List Col} {j : Nat} {x : Col} (hx : L[j]? = some x) (hp : p x = false) : (L.take (j + 1)).filter (fun x => !p x) = (L.take j).filter (fun x => !p x) ++ [x] := by
  rw [List.take_add_one, hx]; simp [List.filter_append, hp]
theorem del_drop {L M : List Col} {j : Nat} (h : M.drop j = L.drop j) : M.drop (j + 1) = L.drop (j + 1) := by
  have := congrArg (List.drop 1) h
  simpa [List.drop_drop] using this
theorem del_get {L M : List Col} {j : Nat} (h : M.drop j = L.drop j) : M[j]? = L[j]? := by
  have := congrArg (fun l => l[0]?) h
  simpa using this

theorem deleteC_any (fn : FuncId) (caps : Array Value) (p : Col → Bool) (base g cap n : Nat) (L : List Col) (w : World) (hn : L.length = n) (hn2 : n ≤ 1000)
    (hown : w.ownsRow base 34 4 (.slice (some ⟨g, 0, none⟩) n cap) n (colsCells L)) (hB : base ≤ w.heap.size) (hgo : Goes fn) (hp : ColPred fn caps p base w) :
    Calls Try.prog 25 #[.slice (some ⟨g, 0, none⟩) n cap, .func (.func fn) #[] caps] w fun e w' =>
      e = .returned (.slice (some ⟨g, 0, none⟩) (L.filter (fun x => !p x)).length cap) ∧
      w'.ownsRow base 34 4 (.slice (some ⟨g, 0, none⟩) (L.filter (fun x => !p x)).length cap) (L.filter (fun x => !p x)).length (colsCells (L.filter (fun x => !p x))) ∧ Below base w w' := by
  have HP := Lib.hid hp
  obtain ⟨hcap1, hcap2, hbg, hgl⟩ := own_cap hown
  have hcs : CsAt w g 0 L := csAt_of_own (by rw [hn]; exact hown) hgl
  have HI := Lib.hid (indexC_any fn caps p g 0 n cap base L w hn (by omega) hcs hgo hB hp)
  unfold Goes at hgo
  clear hp hcs
  unfold maxLen at hcap2
  go_enter Try.func25, Try.ntmps25
  go_wp2_with fail
  refine HI.out.mono ?_
  rintro e w1 ⟨rfl, hb1⟩
  have hown1 : w1.ownsRow base 34 4 (.slice (some ⟨g, 0, none⟩) n cap) n (colsCells L) := own_below hown hb1
  cases hf : L.findIdx? p with
  | none =>
    have hfa : firstAt p L = -1 := by unfold firstAt; rw [hf]
    rw [hfa]
    have hfl : L.filter (fun x => !p x) = L := List.filter_eq_self.2 fun y hy => by simp [List.findIdx?_eq_none_iff.1 hf y hy]
    go_wp2
    go_ret
    rw [hfl, hn]
    exact ⟨rfl, hown1, hb1.mono hB⟩
  | some k =>
    have hfa : firstAt p L = (k : Int) := by unfold firstAt; rw [hf]
    obtain ⟨hk', hpk, hlo⟩ := List.findIdx?_eq_some_iff_getElem.1 hf
    have hk : k < n := by omega
    rw [hfa]
    go_wp2_with fail
    go_loopw [5, 6] (fun s t wr => ∃ (i j : Nat) (M : List Col), i < j ∧ j ≤ n ∧ s = .int .i64 i ∧ t = .int .i64 j ∧ M.length = n ∧ wr.ownsRow base 34 4 (.slice (some ⟨g, 0, none⟩) n cap) n (colsCells M) ∧
      M.take i = (L.take j).filter (fun x => !p x) ∧ M.drop j = L.drop j ∧ Below base w wr) (fun _ t _ => n - (intOf t).toNat)
    case atStart => 
      refine ⟨k, k + 1, L, by omega, by omega, rfl, by go_num, hn, hown1, ?_, rfl, hb1.mono hB⟩
      rw [del_skip (List.getElem?_eq_getElem hk') hpk, List.filter_eq_self.2]
      intro y hy
      obtain ⟨m, hm, rfl⟩ := List.mem_iff_getElem.1 hy
      rw [List.length_take] at hm
      have := hlo m (by omega)
      rw [List.getElem_take]
      simpa using this
    case round =>
      obtain ⟨i, j, M, hij, hj, rfl, rfl, hM, hownM, htk, hdr, hb⟩ := hrel
      by_cases hlt : j < n
      · obtain ⟨x, hx⟩ : ∃ x, L[j]? = some x := ⟨_, List.getElem?_eq_getElem (by omega)⟩
        have hxM : M[j]? = some x := (del_get hdr).trans hx
        obtain ⟨hc1, hc2, hc3, hc4⟩ := (csAt_of_own (w := wr) (L := M) (by rw [hM]; exact hownM) (own_cap hownM).2.2.2).2 j x hxM
        simp only [Nat.zero_add] at hc1 hc2 hc3 hc4
        go_wp2_with fail
        refine (HP.out x _ (hb.alloc (Nat.le_trans hB hb.size) _)).mono ?_
        rintro e w2 ⟨rfl, hb2⟩
        have hownM2 := hownM.alloc (.cells #[.int .i64 x.1, .int .i64 x.2.1, .bool x.2.2.1, .int .i64 x.2.2.2] 34)
        have hownM3 := own_below hownM2 hb2
        have hb3 : Below base w w2 := (hb.alloc (Nat.le_trans hB hb.size) _).trans (hb2.mono (by have := hb.size; simp; omega))
        have hi : i < n := by omega
        obtain ⟨y, hy⟩ : ∃ y, M[i]? = some y := ⟨_, List.getElem?_eq_getElem (by omega)⟩
        obtain ⟨hd1, hd2, hd3, hd4⟩ := (csAt_of_own (w := w2) (L := M) (by rw [hM]; exact hownM3) (own_cap hownM3).2.2.2).2 i y hy
        simp only [Nat.zero_add] at hd1 hd2 hd3 hd4
        have hf1 := hownM3.frozenAt
        have he1 := keep_cell (b := wr.heap.size) (o := 0) (v := .int .i64 x.1) hb2 (by simp) (by simp)
        have he2 := keep_cell (b := wr.heap.size) (o := 1) (v := .int .i64 x.2.1) hb2 (by simp) (by simp)
        have he3 := keep_cell (b := wr.heap.size) (o := 2) (v := .bool x.2.2.1) hb2 (by simp) (by simp)
        have he4 := keep_cell (b := wr.heap.size) (o := 3) (v := .int .i64 x.2.2.2) hb2 (by simp) (by simp)
        cases hpx : p x with
        | true =>
          go_wp2_with fail
          go_roundw
          case rel =>
            (repeat apply Exists.intro)
            exact ⟨⟨i, j + 1, M, by omega, by omega, rfl, by go_num, hM, hownM3, by rw [htk, del_skip hx hpx], del_drop hdr, hb3⟩, rfl⟩
          case measure => simp [intOf]; omega
        | false =>
          clear hownM hownM2 hown hown1 hc1 hc2 hc3 hc4
          go_wp2_with fail
          go_roundw
          case rel =>
            obtain ⟨s1, g1⟩ := hownM3.stored (i * 4) (.int .i64 x.1)
            obtain ⟨s2, g2⟩ := s1.stored (i * 4 + 1) (.int .i64 x.2.1)
            obtain ⟨s3, g3⟩ := s2.stored (i * 4 + 2) (.bool x.2.2.1)
            obtain ⟨s4, g4⟩ := s3.stored (i * 4 + 3) (.int .i64 x.2.2.2)
            rw [← colsCells_set] at s4
            have hbb := (((hb3.grown g1 (Nat.le_trans hB hb3.size) (fun k hk => by cases hk; exact hbg)).grown g2 (by have := hb3.size; simp; omega) (fun k hk => by cases hk; exact hbg)).grown g3 (by have := hb3.size; simp; omega) (fun k hk => by cases hk; exact hbg)).grown g4 (by have := hb3.size; simp; omega) (fun k hk => by cases hk; exact hbg)
            (repeat apply Exists.intro)
            refine ⟨⟨i + 1, j + 1, M.set i x, by omega, by omega, by go_num, by go_num, by simpa using hM, s4, ?_, ?_, hbb⟩, rfl⟩
            · rw [del_take hx hpx, ← htk, List.take_add_one, List.getElem?_set_self (by omega), List.take_set_of_le (Nat.le_refl _)]; rfl
            · rw [List.drop_set_of_lt (by omega)]; exact del_drop hdr
          case measure => simp [intOf]; omega
      · obtain rfl : j = n := by omega
        have hsz := zc_len (j - i)
        have hcl := fun ty => run_clear_cells (P := Try.prog) wr 27 34 ty (.agg #[.int .i64 0, .int .i64 0, .bool false, .int .i64 0]) rfl zeroCol_run g (i * 4) (j - i) (cap - i) (by omega)
          (zc_one _) (by rw [hsz]; intro t ht; rw [hownM.cellAt _ (by omega), List.getElem?_eq_getElem (by rw [colsCells_len, hM]; omega)]; rfl) (fun t _ => hownM.frozenAt _)
        obtain ⟨us, hus⟩ : ∃ us, us = (Builtin.zeroCells (Value.cells (.agg #[.int .i64 0, .int .i64 0, .bool false, .int .i64 0])) (j - i)).toList := ⟨_, rfl⟩
        rw [← hus] at hcl
        obtain ⟨ys, hys, hpre, hgr⟩ := own_setCells us wr (i * 4) _ hownM
        have hbb := hb.grown hgr (Nat.le_trans hB hb.size) (fun k hk => by cases hk; exact hbg)
        go_wp2_with fail
        go_ret
        have hfl : L.filter (fun x => !p x) = M.take i := by rw [htk, List.take_of_length_le (by omega)]
        have hli : (M.take i).length = i := by rw [List.length_take]; omega
        rw [hfl, hli]
        have htt := own_take (show i ≤ j by omega) hys
        rw [show ys.take (i * 4) = colsCells (M.take i) from by
          rw [← colsCells_take]
          apply List.ext_getElem?
          intro t
          rw [List.getElem?_take, List.getElem?_take]
          split
          · exact hpre t (by assumption)
          · rfl] at htt
        subst hus
        exact ⟨rfl, htt, hbb⟩
end Go.Proofs.Ythkeibeelncgkaa
