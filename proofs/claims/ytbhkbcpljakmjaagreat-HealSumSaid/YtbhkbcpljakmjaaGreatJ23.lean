/-
  Contracts of package code: without; strings.Join of texts, a builder's texts.
  Regions that draw their order, inside a wide fence (a round, or the activation of a function that calls yield): reads and effects by the plain laws, a forced tail that may call yield. No program stands here.
-/
import Derived.Test.YtbhkbcpljakmjaaGreatJ22
import Derived.Test.YtbhkbcpljakmjaaGreatJ12
import Derived.Test.YtbhkbcpljakmjaaGreatJ16
import Derived.Test.YtbhkbcpljakmjaaGreatJ09
import Derived.RangeFuncNested
import Derived.RangeFuncBound
import Derived.RangeFuncCalls
import Derived.RangeFuncLeaves
import Derived.Shelf.RegionOpen
import Derived.OwnWalkIn
import Derived.TacticsInMore
import Derived.LoopNIn
import Derived.LoopIn
namespace Go.Proofs.YtbhkbcpljakmjaaGreat
set_option linter.unusedVariables false
set_option linter.unusedSimpArgs false
open Go.RowKit

theorem isB_keep {T e : TypeId} {B b : Nat} {bs : List Value} {W W' : World} (h : Lib.IsBuilder T e B b bs W) (hb : Below W.heap.size W W') : Lib.IsBuilder T e B b bs W' := by
  have key : ∀ p, Lib.BuilderAt T e B b p bs W → Lib.BuilderAt T e B b p bs W' := by
    rintro p h'
    obtain ⟨hB, v, h1, h2, h3⟩ := h'
    exact ⟨hB, v, (hb.block b (lt_of_block h1)).trans h1, h2.kept (row := none) ⟨hb.os, hb.tape, hb.output, hb.size, fun i hi _ => hb.block i hi⟩ (by cases hv : v.ownBlock with | none => exact .inl rfl | some _ => exact .inr (by simp)), h3⟩
  exact h.elim (fun x => .inl (key _ x)) (fun x => .inr (key _ x))
theorem wrS_any (B b : Nat) (bs : List Value) (s : List UInt8) (w : World) (h : Lib.IsBuilder 165 5 B b bs w) (hlen : bs.length + (ByteArray.mk s.toArray).size ≤ 140737488355328) (hBw : B ≤ w.heap.size) :
    Calls Tryz.prog 100 #[.pointer (some ⟨b, 0, none⟩), str s] w fun e w' => e = .returned (.tuple #[.int .i64 (ByteArray.mk s.toArray).size, .nilIface]) ∧ (Lib.BuilderAt 165 5 B b (.pointer (some ⟨b, 0, none⟩)) (bs ++ Lib.strCells ⟨s.toArray⟩) w' ∧ Below B w w') :=
  Any.Builder_WriteString ({ Tryz.lays156 with } : Go.Proofs.Lays.n166 Tryz.prog Tryz.lays156_ren) Tryz.Builder_Extra_156 B b bs ⟨s.toArray⟩ w h hlen hBw
theorem stS_any (B b : Nat) (l : List UInt8) (w : World) (h : Lib.IsBuilder 165 5 B b (Lib.byteCells l) w) (hBw : B ≤ w.heap.size) :
    Calls Tryz.prog 102 #[.pointer (some ⟨b, 0, none⟩)] w fun e w' => e = .returned (str l) ∧ Below B w w' :=
  (Any.Builder_String_any ({ Tryz.lays156 with } : Go.Proofs.Lays.n169 Tryz.prog Tryz.lays156_ren) Tryz.Builder_Extra_156 B b l w h hBw).mono fun e w' h => by
    first
      | exact h
      | exact ⟨h.1, h.2.1⟩
      | exact ⟨h.1, h.2.2⟩
theorem join_flat : ∀ l : List (List UInt8), Lib.join l [] = l.flatten
  | [] => rfl
  | [x] => by simp [Lib.join]
  | x :: y :: r => by
    have := join_flat (y :: r)
    simp only [Lib.join, List.append_nil, List.flatten_cons] at *
    simp [this]
/-- strings.Join without a text between. -/
theorem join_any {w : World} {ss : List (List UInt8)} {sv : Value} (h : SlAt w sv ss.length (strC ss)) (f1 : ss.length ≤ 1000) (f2 : ss.flatten.length ≤ 1000000) :
    Calls Tryz.prog 116 #[sv, str []] w fun e w' => e = .returned (str ss.flatten) ∧ Below w.heap.size w w' := by
  obtain ⟨A, c, rfl⟩ := h.form
  cases ss with
  | nil =>
    refine (Tryz.strings_Join_none A c ⟨#[]⟩ w).mono ?_
    rintro e w' ⟨rfl, rfl⟩
    exact ⟨rfl, Below.refl _ _⟩
  | cons s r =>
    obtain ⟨_, c', e1, hc, hcl⟩ := h
    cases e1
    obtain ⟨b, o, rfl, hb, hcell⟩ := hcl (by simp)
    obtain ⟨xs, hxs⟩ : ∃ xs : List ByteArray, xs = (s :: r).map fun l => ⟨l.toArray⟩ := ⟨_, rfl⟩
    have hxl : xs.length = (s :: r).length := by rw [hxs, List.length_map]
    have hxd : Lib.join (xs.map (·.data.toList)) ([] : List UInt8) = (s :: r).flatten := by
      rw [join_flat, hxs, List.map_map]
      congr 1
      exact (List.map_congr_left (fun l _ => by simp)).trans (List.map_id _)
    have := Tryz.strings_Join b o c xs ⟨#[]⟩ w (fun j x hx => by
      refine hcell j (.string x) ?_
      rw [hxs, List.getElem?_map] at hx
      cases hq : (s :: r)[j]? with
      | none => rw [hq] at hx; cases hx
      | some u =>
        rw [hq] at hx
        simp only [Option.map_some, Option.some.injEq] at hx
        rw [← hx]
        exact strC_at hq) hb (by rw [hxl]; omega) (by rw [hxl]; exact hc) (by
        show (Lib.join (xs.map (·.data.toList)) ([] : List UInt8)).length ≤ _
        rw [hxd]; omega)
    rw [hxl] at this
    refine this.mono ?_
    rintro e w' ⟨rfl, hb'⟩
    refine ⟨?_, hb'⟩
    show Ending.returned (.string ⟨(Lib.join (xs.map (·.data.toList)) ([] : List UInt8)).toArray⟩) = _
    rw [hxd]
theorem makeS_le (l : List (List UInt8)) : (makeS l).length ≤ (l.headD []).length := by
  unfold makeS
  split
  · rename_i h
    have he := h.2
    unfold evenB at he
    rw [List.all_eq_true] at he
    rw [parN_len (fun x hx => by simpa using he x hx)]
    exact Nat.le_refl _
  · exact Nat.zero_le _
theorem againS_le {L : List Col} {got : List (List UInt8)} (h64 : ∀ s ∈ got, s.length ≤ 64) (at_ : Nat) : (againS L got at_).length ≤ 64 := by
  have hg : ∀ i, (got.getD i []).length ≤ 64 := fun i => by
    rw [List.getD_eq_getElem?_getD]
    cases h : got[i]? with
    | none => exact Nat.zero_le _
    | some u => exact h64 u (List.mem_of_getElem? h)
  have key : ∀ R : List Nat, (makeS (R.map fun i => got.getD i [])).length ≤ 64 := fun R => by
    refine Nat.le_trans (makeS_le _) ?_
    cases R with
    | nil => exact Nat.zero_le _
    | cons a r => exact hg a
  unfold againS
  simp only
  split
  · exact Nat.zero_le _
  · exact key _
theorem colTxt_le {L : List Col} {got : List (List UInt8)} (h64 : ∀ s ∈ got, s.length ≤ 64) (dev : Int) (i : Nat) : (colTxt L got dev i).length ≤ 64 := by
  unfold colTxt
  split
  · exact againS_le h64 i
  · rw [List.getD_eq_getElem?_getD]
    cases h : got[i]? with
    | none => exact Nat.zero_le _
    | some u => exact h64 u (List.mem_of_getElem? h)
theorem flat_le : ∀ {l : List (List UInt8)}, (∀ s ∈ l, s.length ≤ 64) → l.flatten.length ≤ 64 * l.length
  | [], _ => by simp
  | s :: r, h => by
    have h1 := h s List.mem_cons_self
    have h2 := flat_le (l := r) (fun x hx => h x (List.mem_cons_of_mem _ hx))
    rw [List.flatten_cons, List.length_append, List.length_cons]
    omega
set_option maxRecDepth 20000 in
set_option maxHeartbeats 1000000 in
theorem without_any {w : World} {L : List Col} {got : List (List UInt8)} {lv gv : Value} (hl : SlAt w lv L.length (colsCells L)) (hg : SlAt w gv got.length (strC got)) (hgl : got.length = L.length) (hL64 : L.length ≤ 64) (h64 : ∀ s ∈ got, s.length ≤ 64) (dev : Int) :
    Calls Tryz.prog 121 #[lv, gv, .int .i64 dev] w fun e w' => e = .returned (str (withS L got dev)) ∧ Below w.heap.size w w' := by
  obtain ⟨Al, cl, rfl⟩ := hl.form
  obtain ⟨Ag, cg, rfl⟩ := hg.form
  rw [hgl] at hg ⊢
  have HGG : Hid (SlAt w (.slice Ag L.length cg) got.length (strC got)) := Lib.hid (by rw [hgl]; exact hg)
  obtain ⟨w1, hw1⟩ : ∃ z, w.alloc (.cells #[.pointer none, .slice none 0 0] 165) = z := ⟨_, rfl⟩
  have hd1 : Below w.heap.size w w1 := by rw [← hw1]; exact keep_alloc (Below.refl _ _) _
  have hs1 : w.heap.size + 1 ≤ w1.heap.size := by rw [← hw1]; simp
  have hI1 : Lib.IsBuilder 165 5 w.heap.size w.heap.size (Lib.byteCells []) w1 := .inl ⟨Nat.le_refl _, .slice none 0 0, by rw [← hw1]; exact Blk.new w _ _, World.ownsRow_nil _ _ _ _, by simp [Value.ownBlock]⟩
  have H := Lib.hid hl
  have HG := Lib.hid hg
  have HGL := Lib.hid hgl
  have H64 := Lib.hid h64
  have HLL := Lib.hid hl
  have HW1 := Lib.hid hw1
  have HI1 := Lib.hid (And.intro hI1 (And.intro hd1 hs1))
  have HRES : Hid (withS L got dev = if hasE ((dataIx L L.length).map (colTxt L got dev)) then [] else ((dataIx L L.length).map (colTxt L got dev)).flatten) := Lib.hid rfl
  clear hl hg hgl h64 hw1 hI1 hd1 hs1
  go_enter Tryz.func121, Tryz.ntmps121
  go_wp2_with fail
  rw [HW1.out]
  go_loopw [8, 9, 10, 13] (fun _ _ _ t wr => ∃ k : Nat, k ≤ L.length ∧ t = .int .i64 k ∧ Lib.IsBuilder 165 5 w.heap.size w.heap.size (Lib.byteCells ((dataIx L k).map (colTxt L got dev)).flatten) wr ∧ hasE ((dataIx L k).map (colTxt L got dev)) = false ∧ Below w.heap.size w wr ∧ w.heap.size + 1 ≤ wr.heap.size) (fun _ _ _ t _ => L.length - (RowKit.intOf t).toNat)
  case atStart => exact ⟨0, Nat.zero_le _, rfl, HI1.out.1, rfl, HI1.out.2.1, HI1.out.2.2⟩
  case round =>
    obtain ⟨k, hk, rfl, hI, hE, hb, hs⟩ := hrel
    have HB := Lib.hid hb
    have HI := Lib.hid hI
    have HE := Lib.hid hE
    have HS := Lib.hid hs
    clear hb hI hE hs
    by_cases hlt : k < L.length
    · obtain ⟨b, o, rfl, hbl, hcell⟩ := H.out.cells (by omega)
      obtain ⟨x, hx⟩ : ∃ x, L[k]? = some x := ⟨_, List.getElem?_eq_getElem hlt⟩
      obtain ⟨q0, q1, q2, q3⟩ := colsCells_at hx
      have hcl : ∀ j u, (colsCells L)[j]? = some u → wr.cell? ⟨b, o + j, none⟩ = some u := fun j u hu => (World.cell?_of_block (HB.out.block b hbl)).trans (hcell j u hu)
      have f0 : wr.cell? ⟨b, o + k * 4, none⟩ = some (.int .i64 x.1) := hcl _ _ q0
      have f1 : wr.cell? ⟨b, o + k * 4 + 1, none⟩ = some (.int .i64 x.2.1) := hcl _ _ q1
      have f2 : wr.cell? ⟨b, o + k * 4 + 2, none⟩ = some (.bool x.2.2.1) := hcl _ _ q2
      have f3 : wr.cell? ⟨b, o + k * 4 + 3, none⟩ = some (.int .i64 x.2.2.2) := hcl _ _ q3
      have hdc : decide (k < L.length) = true := decide_eq_true hlt
      have HLT := Lib.hid hlt
      have HX := Lib.hid hx
      have hi44 : (Tryz.prog.info? 71).map (·.size) = some (#[.int .i64 x.1, .int .i64 x.2.1, .bool x.2.2.1, .int .i64 x.2.2.2] : Array Value).size := by kernel_rfl
      have h1c : (#[.int .i64 x.1, .int .i64 x.2.1, .bool x.2.2.1, .int .i64 x.2.2.2] : Array Value).all (·.oneCell') = true := by kernel_rfl
      have Z2 : Blk (wr.alloc (.cells colZ 71)) wr.heap.size 71 colZ := Blk.new _ _ _
      have hth : (wr.alloc (.cells colZ 71)).there wr.heap.size 0 (#[.int .i64 x.1, .int .i64 x.2.1, .bool x.2.2.1, .int .i64 x.2.2.2] : Array Value).size := Z2.there (Nat.le_refl _)
      obtain ⟨w2, hw2⟩ : ∃ y, (wr.alloc (.cells colZ 71)).setCells wr.heap.size 0 (#[.int .i64 x.1, .int .i64 x.2.1, .bool x.2.2.1, .int .i64 x.2.2.2] : Array Value).toList = y := ⟨_, rfl⟩
      have X2 : Blk w2 wr.heap.size 71 #[.int .i64 x.1, .int .i64 x.2.1, .bool x.2.2.1, .int .i64 x.2.2.2] := by rw [← hw2]; exact Z2.putAll _ rfl
      have hb2 : Below wr.heap.size wr w2 := by rw [← hw2]; exact below_sets _ _ (keep_alloc (Below.refl _ _) _) (Nat.le_refl _)
      have hs2 : w2.heap.size = wr.heap.size + 1 := by rw [← hw2, sets_size', World.size_alloc]
      have HW2 := Lib.hid hw2
      have HX2 := Lib.hid X2
      have HK2 := Lib.hid hb2
      have HS2 := Lib.hid hs2
      have e2 : w2.cell? ⟨wr.heap.size, 2, none⟩ = some (.bool x.2.2.1) := X2.at_ rfl
      have e3 : w2.cell? ⟨wr.heap.size, 3, none⟩ = some (.int .i64 x.2.2.2) := X2.at_ rfl
      clear q0 q1 q2 q3 hcl hcell hx hbl hw2 X2 hb2 hs2 Z2
      have HD2B := Lib.hid (HB.out.trans (HK2.out.mono HB.out.size))
      have HI2 := Lib.hid (isB_keep HI.out HK2.out)
      have e0 : w2.cell? ⟨wr.heap.size, 0, none⟩ = some (.int .i64 x.1) := HX2.out.at_ rfl
      have hstep := dataIx_step L k
      rw [getD_at HX.out] at hstep
      clear e3
      cases hp : x.2.2.1 with
      | true =>
        rw [hp] at e2 hstep
        have HT : Hid (dataIx L (k + 1) = dataIx L k) := Lib.hid (by rw [hstep]; simp)
        clear hp hstep
        repeat' (first
          | (((with_reducible refine wpList_store_mid ?a1 71 (.tmp 9) (.tmp 17) ?a2 wr.heap.size 0 #[.int .i64 x.1, .int .i64 x.2.1, .bool x.2.2.1, .int .i64 x.2.2.2] ?a3 ?a4 hth hi44 h1c ?_); (case a1 => rfl); (case a2 => rfl); (case a3 => rfl); (case a4 => rfl); simp only [Act.put, List.setIfInBounds_toArray, List.set_cons_zero, List.set_cons_succ]; rw [HW2.out]))
          | go_values
          | go_skip
          | go_guarded
          | ((fail_if_success (with_reducible refine drawn_mark ?_))
             first
               | go_step
               | go_upon
               | go_back
               | (simp only [Int.not_lt, Int.not_le] at *; go_simp)
               | (go_values <;> (try go_simp))
               | (go_ite <;> go_prune <;> (try go_simp))
               | (split <;> (first | (rename_i hx; exact (hx _ rfl).elim) | go_prune))))
        go_roundw
        case rel => exact ⟨k + 1, HLT.out, by go_num, by rw [HT.out]; exact HI2.out, by rw [HT.out]; exact HE.out, HD2B.out, Nat.le_trans HS.out HK2.out.size⟩
        case measure => have := HLT.out; simp [RowKit.intOf]; omega
      | false =>
        rw [hp] at e2 hstep
        obtain ⟨s, hs⟩ : ∃ s, got[k]? = some s := ⟨_, List.getElem?_eq_getElem (by rw [HGL.out]; exact hlt)⟩
        obtain ⟨b2, o2, rfl, hl2, hc2⟩ := HG.out.cells (by omega)
        have gs : w2.cell? ⟨b2, o2 + k, none⟩ = some (str s) := keep_cell HD2B.out (hc2 k (str s) (strC_at hs)) hl2
        obtain ⟨u, hu⟩ : ∃ u, colTxt L got dev k = u := ⟨_, rfl⟩
        have HT : Hid ((dataIx L (k + 1)).map (colTxt L got dev) = (dataIx L k).map (colTxt L got dev) ++ [u]) := Lib.hid (by rw [hstep]; simp [hu])
        have HU : Hid (u = if x.1 == dev then againS L got k else s) := Lib.hid (by rw [← hu]; unfold colTxt; rw [getD_at HX.out, gotD_at hs])
        have HUL : Hid (u.length ≤ 64) := Lib.hid (by rw [← hu]; exact colTxt_le H64.out dev k)
        have HFL : Hid (((dataIx L k).map (colTxt L got dev)).flatten.length ≤ 64 * k) := Lib.hid (by
          refine Nat.le_trans (flat_le (fun s hs => ?_)) (Nat.mul_le_mul_left 64 (by rw [List.length_map]; exact dataIx_len L k))
          obtain ⟨i, _, rfl⟩ := List.mem_map.1 hs
          exact colTxt_le H64.out dev i)
        have hkg := hlt
        have HAG := Lib.hid (fun W (hW : Below w.heap.size w W) => again_any (HLL.out.below hW) (HGG.out.below hW) HGL.out hL64 H64.out hlt)
        obtain ⟨Y, hY⟩ : ∃ Y, (dataIx L k).map (colTxt L got dev) = Y := ⟨_, rfl⟩
        rw [hY] at HI2 HT HFL HE
        clear hp hstep hs hc2 hl2 hu hY HI HG
        cases hdv : (x.1 == dev) with
        | true =>
          rw [hdv] at HU
          repeat' (first
            | (((with_reducible refine wpList_store_mid ?a1 71 (.tmp 9) (.tmp 17) ?a2 wr.heap.size 0 #[.int .i64 x.1, .int .i64 x.2.1, .bool x.2.2.1, .int .i64 x.2.2.2] ?a3 ?a4 hth hi44 h1c ?_); (case a1 => rfl); (case a2 => rfl); (case a3 => rfl); (case a4 => rfl); simp only [Act.put, List.setIfInBounds_toArray, List.set_cons_zero, List.set_cons_succ]; rw [HW2.out]))
            | go_values
            | go_skip
            | go_guarded
            | ((fail_if_success (with_reducible refine drawn_mark ?_))
               first
                 | go_step
                 | go_upon
                 | go_back
                 | (simp only [Int.not_lt, Int.not_le] at *; go_simp)
                 | (go_values <;> (try go_simp))
                 | (go_ite <;> go_prune <;> (try go_simp))
                 | (split <;> (first | (rename_i hx; exact (hx _ rfl).elim) | go_prune))))
          refine (HAG.out w2 HD2B.out).mono ?_
          rintro e w3 ⟨rfl, hb3⟩
          have hU : againS L got k = u := by rw [HU.out]; rfl
          rw [hU]
          have HI3 := Lib.hid (isB_keep HI2.out hb3)
          have HB3 := Lib.hid (keep_below hb3 HD2B.out)
          have HB3s := Lib.hid hb3.size
          clear hb3 hU gs e0 e2 hdv HAG f0 f1 f2 f3
          by_cases hue : u = []
          · have hu1 : (u == []) = true := by rw [hue]; rfl
            have HEE : Hid (hasE ((dataIx L L.length).map (colTxt L got dev)) = true) := Lib.hid (by
              unfold hasE
              rw [List.any_eq_true]
              refine ⟨u, ?_, by rw [hue]; rfl⟩
              have hm : u ∈ (dataIx L (k + 1)).map (colTxt L got dev) := by rw [HT.out]; simp
              obtain ⟨i, hi, rfl⟩ := List.mem_map.1 hm
              refine List.mem_map.2 ⟨i, ?_, rfl⟩
              have h1 := HLT.out
              unfold dataIx at hi ⊢
              rw [List.mem_filter, List.mem_range] at hi ⊢
              exact ⟨by omega, hi.2⟩)
            rw [HEE.out] at HRES
            clear hue
            go_wp2_with fail
            go_ret
            rw [HRES.out]
            exact ⟨rfl, HB3.out⟩
          · have hu1 : (u == []) = false := beq_eq_false_iff_ne.2 hue
            have hu2 : u.isEmpty = false := by simpa using hue
            have HEE : Hid (hasE (Y ++ [u]) = false) := Lib.hid (by rw [hasE_snoc, HE.out, hu2]; rfl)
            have HS3 : Hid (w.heap.size + 1 ≤ w3.heap.size) := Lib.hid (Nat.le_trans HS.out (Nat.le_trans HK2.out.size (by first | exact Nat.le_refl _ | exact HB3s.out)))
            have HWS := Lib.hid (wrS_any w.heap.size w.heap.size _ u w3 HI3.out (by rw [Lib.byteCells_length]; have := HFL.out; have := HUL.out; rw [show (ByteArray.mk u.toArray).size = u.length from by simp [ByteArray.size]]; omega) (by have := HS3.out; omega))
            clear hue
            go_wp2_with fail
            refine HWS.out.mono ?_
            rintro e w4 ⟨rfl, hI4, hb4⟩
            have HI4 : Hid (Lib.IsBuilder 165 5 w.heap.size w.heap.size (Lib.byteCells (Y ++ [u]).flatten) w4) := Lib.hid (.inr (by
              have e : Lib.byteCells (Y ++ [u]).flatten = Lib.byteCells Y.flatten ++ Lib.strCells ⟨u.toArray⟩ := by show _ = Lib.byteCells Y.flatten ++ Lib.byteCells u; simp [Lib.byteCells]
              rw [e]; exact hI4))
            have HB4 := Lib.hid (And.intro (HB3.out.trans hb4) (Nat.le_trans HS3.out hb4.size))
            clear hI4 hb4
            go_wp2_with fail
            go_roundw
            case rel => exact ⟨k + 1, HLT.out, by go_num, by rw [HT.out]; exact HI4.out, by rw [HT.out]; exact HEE.out, HB4.out.1, HB4.out.2⟩
            case measure => have := HLT.out; simp [RowKit.intOf]; omega
        | false =>
          rw [hdv] at HU
          have hU : u = s := by rw [HU.out]; rfl
          subst hU
          have HI3 := HI2
          have HB3 := HD2B
          by_cases hue : u = []
          · have hu1 : (u == []) = true := by rw [hue]; rfl
            have HEE : Hid (hasE ((dataIx L L.length).map (colTxt L got dev)) = true) := Lib.hid (by
              unfold hasE
              rw [List.any_eq_true]
              refine ⟨u, ?_, by rw [hue]; rfl⟩
              have hm : u ∈ (dataIx L (k + 1)).map (colTxt L got dev) := by rw [HT.out]; simp
              obtain ⟨i, hi, rfl⟩ := List.mem_map.1 hm
              refine List.mem_map.2 ⟨i, ?_, rfl⟩
              have h1 := HLT.out
              unfold dataIx at hi ⊢
              rw [List.mem_filter, List.mem_range] at hi ⊢
              exact ⟨by omega, hi.2⟩)
            rw [HEE.out] at HRES
            clear hue
            repeat' (first
              | (((with_reducible refine wpList_store_mid ?a1 71 (.tmp 9) (.tmp 17) ?a2 wr.heap.size 0 #[.int .i64 x.1, .int .i64 x.2.1, .bool x.2.2.1, .int .i64 x.2.2.2] ?a3 ?a4 hth hi44 h1c ?_); (case a1 => rfl); (case a2 => rfl); (case a3 => rfl); (case a4 => rfl); simp only [Act.put, List.setIfInBounds_toArray, List.set_cons_zero, List.set_cons_succ]; rw [HW2.out]))
              | go_values
              | go_skip
              | go_guarded
              | ((fail_if_success (with_reducible refine drawn_mark ?_))
                 first
                   | go_step
                   | go_upon
                   | go_back
                   | (simp only [Int.not_lt, Int.not_le] at *; go_simp)
                   | (go_values <;> (try go_simp))
                   | (go_ite <;> go_prune <;> (try go_simp))
                   | (split <;> (first | (rename_i hx; exact (hx _ rfl).elim) | go_prune))))
            go_ret
            rw [HRES.out]
            exact ⟨rfl, HB3.out⟩
          · have hu1 : (u == []) = false := beq_eq_false_iff_ne.2 hue
            have hu2 : u.isEmpty = false := by simpa using hue
            have HEE : Hid (hasE (Y ++ [u]) = false) := Lib.hid (by rw [hasE_snoc, HE.out, hu2]; rfl)
            have HS3 : Hid (w.heap.size + 1 ≤ w2.heap.size) := Lib.hid (Nat.le_trans HS.out (Nat.le_trans HK2.out.size (by first | exact Nat.le_refl _ | exact HB3s.out)))
            have HWS := Lib.hid (wrS_any w.heap.size w.heap.size _ u w2 HI3.out (by rw [Lib.byteCells_length]; have := HFL.out; have := HUL.out; rw [show (ByteArray.mk u.toArray).size = u.length from by simp [ByteArray.size]]; omega) (by have := HS3.out; omega))
            clear hue
            repeat' (first
              | (((with_reducible refine wpList_store_mid ?a1 71 (.tmp 9) (.tmp 17) ?a2 wr.heap.size 0 #[.int .i64 x.1, .int .i64 x.2.1, .bool x.2.2.1, .int .i64 x.2.2.2] ?a3 ?a4 hth hi44 h1c ?_); (case a1 => rfl); (case a2 => rfl); (case a3 => rfl); (case a4 => rfl); simp only [Act.put, List.setIfInBounds_toArray, List.set_cons_zero, List.set_cons_succ]; rw [HW2.out]))
              | go_values
              | go_skip
              | go_guarded
              | ((fail_if_success (with_reducible refine drawn_mark ?_))
                 first
                   | go_step
                   | go_upon
                   | go_back
                   | (simp only [Int.not_lt, Int.not_le] at *; go_simp)
                   | (go_values <;> (try go_simp))
                   | (go_ite <;> go_prune <;> (try go_simp))
                   | (split <;> (first | (rename_i hx; exact (hx _ rfl).elim) | go_prune))))
            clear gs e0 e2 HAG f0 f1 f2 f3 hdv
            refine HWS.out.mono ?_
            rintro e w4 ⟨rfl, hI4, hb4⟩
            have HI4 : Hid (Lib.IsBuilder 165 5 w.heap.size w.heap.size (Lib.byteCells (Y ++ [u]).flatten) w4) := Lib.hid (.inr (by
              have e : Lib.byteCells (Y ++ [u]).flatten = Lib.byteCells Y.flatten ++ Lib.strCells ⟨u.toArray⟩ := by show _ = Lib.byteCells Y.flatten ++ Lib.byteCells u; simp [Lib.byteCells]
              rw [e]; exact hI4))
            have HB4 := Lib.hid (And.intro (HB3.out.trans hb4) (Nat.le_trans HS3.out hb4.size))
            clear hI4 hb4
            go_wp2_with fail
            go_roundw
            case rel => exact ⟨k + 1, HLT.out, by go_num, by rw [HT.out]; exact HI4.out, by rw [HT.out]; exact HEE.out, HB4.out.1, HB4.out.2⟩
            case measure => have := HLT.out; simp [RowKit.intOf]; omega
    · obtain rfl : k = L.length := by omega
      have hdc : decide ((L.length : Int) < L.length) = false := decide_eq_false (by omega)
      have HST := Lib.hid (stS_any w.heap.size w.heap.size _ wr HI.out (by have := HS.out; omega))
      rw [HE.out] at HRES
      obtain ⟨F, hF⟩ : ∃ F, ((dataIx L L.length).map (colTxt L got dev)).flatten = F := ⟨_, rfl⟩
      rw [hF] at HST HRES
      clear hF HI
      go_wp2_with fail
      refine HST.out.mono ?_
      rintro e w3 ⟨rfl, hb3⟩
      have HB3 := Lib.hid (HB.out.trans hb3)
      clear hb3
      go_wp2_with fail
      go_ret
      rw [HRES.out]
      exact ⟨rfl, HB3.out⟩
end Go.Proofs.YtbhkbcpljakmjaaGreat

namespace Go.Proofs.YtbhkbcpljakmjaaGreat
set_option linter.unusedVariables false
set_option linter.unusedSimpArgs false
open Go.RowKit

/-- A fence that lets all by. -/
structure Wide (F : Fence) : Prop where
  fn : ∀ f, F.fn f
  depth : F.depth = none
  calls : ∀ {n : Nat} {P : Program} {f : FuncId} {args : Array Value} {w : World} {R : Ending → World → Prop}, Calls P f args w R → CallsIn F n P f args w R
  rows : ∀ {n : Nat} {P : Program} {row : String} {args : Array Value} {w : World} {R : Value → World → Prop}, Rows P row args w R → RowsIn F n P row args w R
theorem wide_wide : Wide Fence.wide :=
  ⟨fun _ => trivial, rfl, fun h => callsIn_wide.2 h, fun h c cs _ => let ⟨v, w', r, s⟩ := h c cs; ⟨v, w', r, stepsIn_wide.2 s⟩⟩
theorem Wide.inRound {F : Fence} (h : Wide F) (l : Nat) : Wide (F.inRound l) := ⟨h.fn, h.depth, fun hh => CallsIn.inRound l (h.calls hh), fun hh => h.rows hh⟩
def noDeferB (o : Oper) : Bool := match o.op with | .defer _ => false | _ => true
theorem semAt_plain {o : Oper} (h : noDeferB o = true) (ro : Option Nat) (ρ : Operand → Value) : o.semAt ro ρ = execOp ρ o := by
  cases ro with
  | none => rfl
  | some l =>
    refine Oper.semAt_some l ρ o (fun c hc => ?_)
    unfold noDeferB at h
    rw [hc] at h
    cases h
section
variable {F : Fence} {m : Nat} {P : Program} {ops : Array Oper} {md : Region.Mode} {S : World → Prop} {eff : Nat → Bool}
theorem wpIn_of_wpn {o : Oper} {a : Act} {w : World} {K : Act → World → Prop} {Q : Exit → Act → World → Prop} (hF : Wide F) (hs : noDeferB o = true) (h : Oper.wpn P o a w K) : o.wpIn F m P a w K Q := by
  refine ⟨fun f _ => hF.fn f, ?_⟩
  rw [semAt_plain hs]
  unfold Oper.wpn Oper.wp at h
  have hd : F.depth.isSome = true → 1 ≤ m := fun hd => by rw [hF.depth] at hd; cases hd
  generalize (execOp a.eval o).run P w = r at *
  cases r with
  | ok x w' =>
    cases x <;> simp only [Oper.upon, Oper.uponIn] at h ⊢
    case value v => exact h
    case skip => exact h
    case defer d => exact h
    case enter f args =>
      refine ⟨hd, CallsIn.mono (hF.calls h) (fun e w'' he => ?_)⟩
      cases e with
      | returned v => exact he
      | panicked c => exact absurd he nrm_false
      | outgrown => exact absurd he nrm_out
    case row row args => exact ⟨hd, hF.rows h⟩
  | halt x w' => cases x <;> simp only [Oper.upon, Oper.uponIn] at h ⊢; exact absurd h nrm_false
theorem wpIn_of_quiet {o : Oper} {a : Act} {w : World} {K : Act → Prop} {Q : Exit → Act → World → Prop} (hF : Wide F) (hs : noDeferB o = true) (hw : S w) (hN : NoEnter P o) (h : o.quiet P a S K) : o.wpIn F m P a w (fun a' w' => w' = w ∧ K a') Q := by
  refine ⟨fun f _ => hF.fn f, ?_⟩
  rw [semAt_plain hs]
  obtain ⟨v, h1, h2⟩ := h
  have h3 := h1 w hw
  unfold Oper.quietAt at h3
  have hN' := hN a.eval w
  generalize (execOp a.eval o).run P w = r at *
  cases r with
  | ok n w' =>
    cases n <;> simp only [Oper.quietUpon] at h3 <;> simp only [Oper.uponIn]
    case value u => obtain ⟨rfl, rfl⟩ := h3; exact ⟨rfl, h2⟩
    case skip => obtain ⟨rfl, rfl⟩ := h3; exact ⟨rfl, h2⟩
    case enter f args => exact absurd (hN' _ _ rfl) (by simp [entersB])
  | halt x w' => simp only [Oper.quietUpon] at h3
theorem wpOpIn_of_efOpG {i : Nat} {a : Act} {K : Act → World → Prop} {K' : Act → World → Prop} {Q' : Exit → Act → World → Prop} {w : World} (hF : Wide F) (hdf : ∀ o, ops[i]? = some o → noDeferB o = true) (hw : S w)
    (hne : ∀ o, ops[i]? = some o → eff i = false → NoEnter P o) (h : ∀ a w, S w → K a w → K' a w) (hh : G.efOp P ops S eff i K a w) : wpOpIn F m P ops Q' i K' a w := by
  unfold G.efOp at hh
  unfold wpOpIn
  split
  · rename_i ho; simp only [ho] at hh; exact h _ _ hw hh
  · rename_i o ho
    simp only [ho] at hh
    cases he : eff i with
    | true =>
      simp only [he, if_true] at hh
      have hwn := hh.1
      simp only [hwn, if_true]
      exact Oper.wpIn_mono (fun a' w' h' => h _ _ h'.1 h'.2) (wpIn_of_wpn hF (hdf o ho) hh.2)
    | false =>
      simp only [he, Bool.false_eq_true, if_false] at hh
      split
      · rename_i hwn
        simp only [hwn, if_true] at hh
        exact Oper.wpIn_mono (fun a' w' h' => by obtain ⟨rfl, h'⟩ := h'; exact h _ _ hw h') (wpIn_of_quiet hF (hdf o ho) hw (hne o ho he) hh)
      · rename_i hwn; simp only [hwn] at hh; exact ⟨fun f _ => hF.fn f, h _ _ hw hh⟩
theorem wpAnyIn_of_effG {n g : Nat} {L : Array Bool → Act → World → Prop} {Q' : Exit → Act → World → Prop} (hF : Wide F) (hdf : ∀ (i : Nat) (o : Oper), ops[i]? = some o → noDeferB o = true) (hne : ∀ (i : Nat) (o : Oper), ops[i]? = some o → i < n → eff i = false → NoEnter P o)
    (hL : ∀ listed a w, S w → L listed a w → wpAnyIn F m P md ops Q' g listed a w) :
    ∀ (f : Nat) (listed : Array Bool) (a : Act) (w : World), S w → G.wpAnyE P md ops S eff n L f listed a w → wpAnyIn F m P md ops Q' (f + g) listed a w
  | 0, listed, a, w, hw, h => by rw [Nat.zero_add]; exact hL _ _ _ hw h
  | f + 1, listed, a, w, hw, h => by
    rw [show f + 1 + g = (f + g) + 1 by omega]
    exact ⟨fun h0 => absurd h0 h.1, fun i hi => wpOpIn_of_efOpG hF (hdf i) hw (fun o ho he => hne i o ho (h.2 i hi).1 he) (fun a' w' hw' h' => wpAnyIn_of_effG hF hdf hne hL f _ a' w' hw' h') (h.2 i hi).2⟩
theorem wpOpIn_of_efOp {i : Nat} {a : Act} {K : Act → World → Prop} {K' : Act → World → Prop} {Q' : Exit → Act → World → Prop} {w : World} (hF : Wide F) (hdf : ∀ o, ops[i]? = some o → noDeferB o = true) (hw : S w) (hg : ∀ o, ops[i]? = some o → eff i = true → o.guard = none)
    (hne : ∀ o, ops[i]? = some o → eff i = false → NoEnter P o) (h : ∀ a w, S w → K a w → K' a w) (hh : efOp P ops S eff i K a w) : wpOpIn F m P ops Q' i K' a w := by
  unfold efOp at hh
  unfold wpOpIn
  split
  · rename_i ho; simp only [ho] at hh; exact h _ _ hw hh
  · rename_i o ho
    simp only [ho] at hh
    cases he : eff i with
    | true =>
      simp only [he, if_true] at hh
      have hwn : Region.wanted o (yielded ops a.tmps) = true := by simp only [Region.wanted, hg o ho he]
      simp only [hwn, if_true]
      exact Oper.wpIn_mono (fun a' w' h' => h _ _ h'.1 h'.2) (wpIn_of_wpn hF (hdf o ho) hh)
    | false =>
      simp only [he, Bool.false_eq_true, if_false] at hh
      split
      · rename_i hwn
        simp only [hwn, if_true] at hh
        exact Oper.wpIn_mono (fun a' w' h' => by obtain ⟨rfl, h'⟩ := h'; exact h _ _ hw h') (wpIn_of_quiet hF (hdf o ho) hw (hne o ho he) hh)
      · rename_i hwn; simp only [hwn] at hh; exact ⟨fun f _ => hF.fn f, h _ _ hw hh⟩
theorem wpAnyIn_of_eff {n g : Nat} {L : Array Bool → Act → World → Prop} {Q' : Exit → Act → World → Prop} (hF : Wide F) (hdf : ∀ (i : Nat) (o : Oper), ops[i]? = some o → noDeferB o = true) (hg : ∀ (i : Nat) (o : Oper), ops[i]? = some o → eff i = true → o.guard = none) (hne : ∀ (i : Nat) (o : Oper), ops[i]? = some o → i < n → eff i = false → NoEnter P o)
    (hL : ∀ listed a w, S w → L listed a w → wpAnyIn F m P md ops Q' g listed a w) :
    ∀ (f : Nat) (listed : Array Bool) (a : Act) (w : World), S w → wpAnyE P md ops S eff n L f listed a w → wpAnyIn F m P md ops Q' (f + g) listed a w
  | 0, listed, a, w, hw, h => by rw [Nat.zero_add]; exact hL _ _ _ hw h
  | f + 1, listed, a, w, hw, h => by
    rw [show f + 1 + g = (f + g) + 1 by omega]
    exact ⟨fun h0 => absurd h0 h.1, fun i hi => wpOpIn_of_efOp hF (hdf i) hw (hg i) (fun o ho he => hne i o ho (h.2 i hi).1 he) (fun a' w' hw' h' => wpAnyIn_of_eff hF hdf hg hne hL f _ a' w' hw' h') (h.2 i hi).2⟩
theorem wpAnyIn_of_seq {Q' : Exit → Act → World → Prop} : ∀ (l : List Oper) (k : Nat) (listed : Array Bool) (a : Act) (w : World), (∀ j, l[j]? = ops[k + j]?) →
    Region.seqB md ops l.length k listed = true → wpListIn F m P ops Q' l a w → wpAnyIn F m P md ops Q' l.length listed a w
  | [], _, _, _, _, _, hB, h => ⟨by simpa [Region.seqB] using hB, h⟩
  | o :: l, k, listed, a, w, hl, hB, h => by
    have h0 : ops[k]? = some o := by simpa using (hl 0).symm
    simp only [List.length_cons, Region.seqB, Bool.and_eq_true, decide_eq_true_eq] at hB
    refine ⟨fun h1 => (by rw [hB.1] at h1; cases h1), fun i hi => ?_⟩
    rw [hB.1] at hi
    have hik : i = k := by simpa using hi
    subst hik
    have hw : wpOpIn F m P ops Q' i (wpListIn F m P ops Q' l) a w := by unfold wpOpIn; simp only [h0]; exact h
    exact wpOpIn_mono (fun a' w' h' => wpAnyIn_of_seq l (i + 1) _ a' w' (fun j => by have := hl (j + 1); simpa [Nat.add_assoc, Nat.add_comm 1 j] using this) hB.2 h') hw
theorem all_plain {l : List Oper} (h : l.all noDeferB = true) : ∀ (i : Nat) (o : Oper), l.toArray[i]? = some o → noDeferB o = true := fun i o ho => by
  rw [List.getElem?_toArray] at ho
  exact List.all_eq_true.1 h o (List.mem_of_getElem? ho)
/-- A region of reads and effects (guarded ones too), then a forced tail, in a wide fence. -/
theorem wpIn_region_effG {id : Nat} {Q : Exit → Act → World → Prop} {a : Act} {w : World} {l : List Oper} (hF : Wide F) (S : World → Prop) (cuts : List Nat) (n : Nat) (hm : P.follows .mixedOrders = true) (hD : l.all noDeferB = true) (hB : Region.lexTailB .any l.toArray n = true)
    (hE : G.effB .any l.toArray n (fun i => cuts.contains i) = true) (hS : S w.drew)
    (h : G.wpLexE P l.toArray S (fun i => cuts.contains i) (fun a' w' => wpListIn F m P l.toArray Q (l.drop n) a' w') (l.take n) 0 a w.drew) : (Code.region id l.toArray true).wpIn F m P Q a w := by
  obtain ⟨hne, hch⟩ := G.effB_spec (P := P) hE
  simp only [Region.lexTailB, Bool.and_eq_true, decide_eq_true_eq] at hB
  obtain ⟨⟨⟨⟨hsel, hn⟩, hs⟩, hc⟩, hlex⟩ := hB
  have hn' : n < l.length := by simpa using hn
  have htl : (l.take n).length = n := by simp; omega
  have hdl : (l.drop n).length = l.toArray.size - n := by simp
  have inv0 : HeadInv .any l.toArray n (Array.replicate l.toArray.size false) :=
    ⟨by simp, fun j oj _ hl => (by rw [getD_replicate_false] at hl; cases hl), fun t _ ht => getD_in (by simpa using ht) (getD_replicate_false _ _)⟩
  have einv0 : G.EffInv l.toArray (fun i => cuts.contains i) 0 (Array.replicate l.toArray.size false) := ⟨fun j hj => by omega, fun j _ hj _ => getD_in (by simpa using hj) (getD_replicate_false _ _)⟩
  have H := G.wpAnyE_lex (md := .any) (g := l.toArray.size - n) hsel hs hc hn hne hch (l.take n) 0 _ a w.drew hS (fun j hj => by
    have hj' : j < n := by rw [htl] at hj; exact hj
    simp [hj']) (by simpa using htl) inv0 einv0 (by rw [htl]; exact hlex) h
  refine wpIn_region_any hm ?_
  have := wpAnyIn_of_effG (F := F) (m := m) (Q' := Q) (g := l.toArray.size - n) hF (all_plain hD) hne (fun listed a' w' _ hL => by
    have := wpAnyIn_of_seq (F := F) (m := m) (md := .any) (Q' := Q) (l.drop n) n listed a' w' (fun j => by simp [List.getElem?_drop]) (by rw [hdl]; exact hL.1) hL.2
    rwa [hdl] at this) _ _ _ _ hS H
  rw [htl, show n + (l.toArray.size - n) = l.toArray.size by omega] at this
  exact this
/-- A region of reads and effects without a forced tail, in a wide fence. -/
theorem wpIn_region_effA {id : Nat} {Q : Exit → Act → World → Prop} {a : Act} {w : World} {l : List Oper} (hF : Wide F) (S : World → Prop) (cuts : List Nat) (hm : P.follows .mixedOrders = true) (hD : l.all noDeferB = true)
    (hB : (Region.noSelect l.toArray && Region.lexHead .any l.toArray 0 l.length 0 (Array.replicate l.toArray.size false)) = true)
    (hE : effB .any l.toArray l.length (fun i => cuts.contains i) = true) (hS : S w.drew)
    (h : wpLexE P l.toArray S (fun i => cuts.contains i) (fun a' w' => Q .normal a' w') l 0 a w.drew) : (Code.region id l.toArray true).wpIn F m P Q a w := by
  obtain ⟨hg, hne, hch⟩ := effB_spec (P := P) hE
  simp only [Bool.and_eq_true] at hB
  obtain ⟨hsel, hlex⟩ := hB
  have inv0 : HeadInv .any l.toArray l.length (Array.replicate l.toArray.size false) :=
    ⟨by simp, fun j oj _ hl => (by rw [getD_replicate_false] at hl; cases hl), fun t h1 h2 => by simp at h2; omega⟩
  have einv0 : EffInv l.toArray (fun i => cuts.contains i) 0 (Array.replicate l.toArray.size false) := ⟨fun j hj => by omega, fun j _ hj _ => getD_in (by simpa using hj) (getD_replicate_false _ _)⟩
  have H := wpAnyE_lexA (md := .any) (g := 0) hsel (by simp) hg hne hch l 0 _ a w.drew hS (fun j hj => by simp) (by simp) inv0 einv0 hlex h
  refine wpIn_region_any hm ?_
  have := wpAnyIn_of_eff (F := F) (m := m) (Q' := Q) (g := 0) hF (all_plain hD) hg hne (fun listed a' w' _ hL => by
    exact ⟨by simpa [Region.seqB] using hL.1, hL.2⟩) _ _ _ _ hS H
  simpa using this
theorem wpOpIn_of_efOpPl {i : Nat} {a : Act} {K : Act → World → Prop} {K' : Act → World → Prop} {Q' : Exit → Act → World → Prop} {w : World} (hF : Wide F) (hdf : ∀ o, ops[i]? = some o → noDeferB o = true) (hw : S w)
    (hne : ∀ o, ops[i]? = some o → eff i = false → NoEnter P o) (h : ∀ a w, S w → K a w → K' a w) (hh : Pl.efOp P ops S eff i K a w) : wpOpIn F m P ops Q' i K' a w := by
  unfold Pl.efOp at hh
  unfold wpOpIn
  split
  · rename_i ho; simp only [ho] at hh; exact h _ _ hw hh
  · rename_i o ho
    simp only [ho] at hh
    split
    · rename_i hwn
      simp only [hwn, if_true] at hh
      cases he : eff i with
      | true =>
        simp only [he, if_true] at hh
        exact Oper.wpIn_mono (fun a' w' h' => h _ _ h'.1 h'.2) (wpIn_of_wpn hF (hdf o ho) hh)
      | false =>
        simp only [he, Bool.false_eq_true, if_false] at hh
        exact Oper.wpIn_mono (fun a' w' h' => by obtain ⟨rfl, h'⟩ := h'; exact h _ _ hw h') (wpIn_of_quiet hF (hdf o ho) hw (hne o ho he) hh)
    · rename_i hwn; simp only [hwn] at hh; exact ⟨fun f _ => hF.fn f, h _ _ hw hh⟩
theorem wpAnyIn_of_effPl {Q : Act → World → Prop} {Q' : Exit → Act → World → Prop} (hF : Wide F) (hdf : ∀ (i : Nat) (o : Oper), ops[i]? = some o → noDeferB o = true) (hne : ∀ (i : Nat) (o : Oper), ops[i]? = some o → eff i = false → NoEnter P o) (hQ : ∀ a w, Q a w → Q' .normal a w) :
    ∀ (f : Nat) (listed : Array Bool) (a : Act) (w : World), S w → Pl.wpAnyE P md ops S eff (fun listed a w => Region.ready md ops listed = [] ∧ Q a w) f listed a w → wpAnyIn F m P md ops Q' f listed a w
  | 0, listed, a, w, _, h => ⟨h.1, hQ _ _ h.2⟩
  | f + 1, listed, a, w, hw, h =>
    ⟨fun h0 => absurd h0 h.1, fun i hi => wpOpIn_of_efOpPl hF (hdf i) hw (fun o ho he => hne i o ho he) (fun a' w' hw' h' => wpAnyIn_of_effPl hF hdf hne hQ f _ a' w' hw' h') (h.2 i hi)⟩
theorem wpIn_region_plan {id : Nat} {Q : Exit → Act → World → Prop} {a : Act} {w : World} {l : List Oper} (hF : Wide F) (S : World → Prop) (cuts : List Nat) (p : Pl.Plan) (hm : P.follows .mixedOrders = true) (hD : l.all noDeferB = true)
    (hB : Pl.regionB .any l.toArray (fun i => cuts.contains i) p = true) (hS : S w.drew)
    (h : Pl.wpPlan P l.toArray S (fun i => cuts.contains i) (fun a' w' => Q .normal a' w') p a w.drew) : (Code.region id l.toArray true).wpIn F m P Q a w := by
  simp only [Pl.regionB, Bool.and_eq_true, decide_eq_true_eq] at hB
  obtain ⟨⟨⟨h1, h2⟩, h3⟩, h4⟩ := hB
  have hne : ∀ (i : Nat) (o : Oper), l.toArray[i]? = some o → cuts.contains i = false → NoEnter P o := fun i o ho he => by
    have := List.all_eq_true.1 h3 i (List.mem_range.2 (Array.getElem?_eq_some_iff.1 ho).1)
    simp only [ho, he, Bool.false_or] at this
    exact plain_ok this
  have H := Pl.wpAnyE_plan (md := .any) h1 hne p _ a w.drew h4 hS h
  refine wpIn_region_any hm ?_
  have := wpAnyIn_of_effPl (F := F) (m := m) (Q' := Q) hF (all_plain hD) hne (fun _ _ h => h) _ _ _ _ hS H
  rwa [h2] at this
theorem wpn_of_quiet {o : Oper} {a : Act} {w : World} {K : Act → Prop} (hw : S w) (hp : plainB o = true) (h : o.quiet P a S K) : Oper.wpn P o a w (fun a' w' => w' = w ∧ K a') := by
  obtain ⟨v, h1, h2⟩ := h
  have h3 := h1 w hw
  unfold Oper.quietAt at h3
  have hN := plain_ok (P := P) hp a.eval w
  unfold Oper.wpn Oper.wp
  generalize (execOp a.eval o).run P w = r at *
  cases r with
  | ok n w' =>
    cases n <;> simp only [Oper.quietUpon] at h3 <;> simp only [Oper.upon]
    case value u => obtain ⟨rfl, rfl⟩ := h3; exact ⟨rfl, h2⟩
    case skip => obtain ⟨rfl, rfl⟩ := h3; exact ⟨rfl, h2⟩
    case enter f args => exact absurd (hN _ _ rfl) (by simp [entersB])
  | halt x w' => simp only [Oper.quietUpon] at h3
/-- An operation that is counted with those that turn the world, but only reads. -/
theorem plan_read {K : Act → World → Prop} {l rest : List Oper} {o : Oper} {k : Nat} {a : Act} {w : World} (hw : S w) (he : eff k = true) (hd : l.drop k = o :: rest) (hp : plainB o = true)
    (h : wpQuiet P l.toArray S (fun a' => K a' w) [o] a) : Pl.efOp P l.toArray S eff k K a w := by
  unfold Pl.efOp
  simp only [Pl.drop_get hd, he, if_true]
  simp only [wpQuiet] at h
  split
  · rename_i hwn
    simp only [hwn, if_true] at h
    exact wpn_mono (fun a' w' h' => by obtain ⟨rfl, h'⟩ := h'; exact ⟨hw, h'⟩) (wpn_of_quiet hw hp h)
  · rename_i hwn
    simp only [hwn] at h
    exact h
/-- What is still to come: it is not looked into. -/
structure Held (p : Prop) : Prop where
  out : p
theorem quiet_held {K : Act → Prop} {l : List Oper} {a : Act} (h : wpQuiet P ops S (fun a' => Held (K a')) l a) : wpQuiet P ops S K l a := by
  induction l generalizing a with
  | nil => exact h.out
  | cons o l ih =>
    simp only [wpQuiet] at h ⊢
    split
    · rename_i hw
      simp only [hw, if_true] at h
      exact Oper.quiet_mono (fun a' h' => ih h') h
    · rename_i hw
      simp only [hw] at h
      exact ih h
theorem plan_readH {K : Act → World → Prop} {l rest : List Oper} {o : Oper} {k : Nat} {a : Act} {w : World} (hw : S w) (he : eff k = true) (hd : l.drop k = o :: rest) (hp : plainB o = true)
    (h : wpQuiet P l.toArray S (fun a' => Held (K a' w)) [o] a) : Pl.efOp P l.toArray S eff k K a w := plan_read hw he hd hp (quiet_held h)
theorem plan_takeH {Q : Act → World → Prop} {r : Pl.Plan} {l : List Oper} {k : Nat} {a : Act} {w : World} (m : Nat) (he : (List.range m).all (fun j => !eff (k + j)) = true) (hm : decide (k + m ≤ l.length) = true)
    (h : wpQuiet P l.toArray S (fun a' => Held (Pl.wpPlan P l.toArray S eff Q r a' w)) ((l.drop k).take m) a) : Pl.wpPlan P l.toArray S eff Q (Pl.Plan.seg k m r) a w := Pl.wpPlan_take m he hm (quiet_held h)
theorem plan_skip {Q : Act → World → Prop} {r : Pl.Plan} {l rest : List Oper} {o : Oper} {d : Option Tmp} {k : Nat} {a : Act} {w : World} (hd : l.drop k = o :: rest) (ho : o.dst = d) (hwn : Region.wanted o (yielded l.toArray a.tmps) = false)
    (h : Pl.wpPlan P l.toArray S eff Q r (a.put d undef) w) : Pl.wpPlan P l.toArray S eff Q (.op k r) a w := Pl.efOp_skip hd hwn (by rw [ho]; exact h)
theorem lex_read {Q : Act → World → Prop} {o : Oper} {rest : List Oper} {k : Nat} {a : Act} {w : World} (hw : S w) (he : eff k = true) (hg : o.guard = none) (hp : plainB o = true)
    (h : wpQuiet P ops S (fun a' => G.wpLexE P ops S eff Q rest (k + 1) a' w) [o] a) : G.wpLexE P ops S eff Q (o :: rest) k a w := by
  simp only [G.wpLexE, he, if_true]
  have hwn : Region.wanted o (yielded ops a.tmps) = true := by simp only [Region.wanted, hg]
  simp only [wpQuiet, hwn, if_true] at h
  exact ⟨hwn, wpn_mono (fun a' w' h' => by obtain ⟨rfl, h'⟩ := h'; exact ⟨hw, h'⟩) (wpn_of_quiet hw hp h)⟩
end
end Go.Proofs.YtbhkbcpljakmjaaGreat
