/-
  Contracts of package code: without; strings.Join of texts, a builder's texts.
-/
import Derived.Test.YtefhmemmfajbfaaJ09
namespace Go.Proofs.Ytefhmemmfajbfaa
set_option linter.unusedVariables false
set_option linter.unusedSimpArgs false
open Go.RowKit

theorem isB_keep {T e : TypeId} {B b : Nat} {bs : List Value} {W W' : World} (h : Lib.IsBuilder T e B b bs W) (hb : Below W.heap.size W W') : Lib.IsBuilder T e B b bs W' := by
  have key : ∀ p, Lib.BuilderAt T e B b p bs W → Lib.BuilderAt T e B b p bs W' := by
    rintro p h'
    obtain ⟨hB, v, h1, h2, h3⟩ := h'
    exact ⟨hB, v, (hb.block b (lt_of_block h1)).trans h1, h2.kept (row := none) ⟨hb.os, hb.tape, hb.output, hb.size, fun i hi _ => hb.block i hi⟩ (by cases hv : v.ownBlock with | none => exact .inl rfl | some _ => exact .inr (by simp)), h3⟩
  exact h.elim (fun x => .inl (key _ x)) (fun x => .inr (key _ x))
theorem wrS_any (B b : Nat) (bs : List Value) (s : List UInt8) (w : World) (h : Lib.IsBuilder 90 5 B b bs w) (hlen : bs.length + (ByteArray.mk s.toArray).size ≤ 140737488355328) (hBw : B ≤ w.heap.size) :
    Calls Try.prog 56 #[.pointer (some ⟨b, 0, none⟩), str s] w fun e w' => e = .returned (.tuple #[.int .i64 (ByteArray.mk s.toArray).size, .nilIface]) ∧ (Lib.BuilderAt 90 5 B b (.pointer (some ⟨b, 0, none⟩)) (bs ++ Lib.strCells ⟨s.toArray⟩) w' ∧ Below B w w') :=
  Any.Builder_WriteString ({ Try.lays156 with } : Go.Proofs.Lays.n166 Try.prog Try.lays156_ren) Try.Builder_Extra_156 B b bs ⟨s.toArray⟩ w h hlen hBw
theorem stS_any (B b : Nat) (l : List UInt8) (w : World) (h : Lib.IsBuilder 90 5 B b (Lib.byteCells l) w) (hBw : B ≤ w.heap.size) :
    Calls Try.prog 57 #[.pointer (some ⟨b, 0, none⟩)] w fun e w' => e = .returned (str l) ∧ Below B w w' :=
  (Any.Builder_String_any ({ Try.lays156 with } : Go.Proofs.Lays.n169 Try.prog Try.lays156_ren) Try.Builder_Extra_156 B b l w h hBw).mono fun e w' h => by
    first
      | exact h
      | exact ⟨h.1, h.2.1⟩
      | exact ⟨h.1, h.2.2⟩
theorem join_flat : ∀ l : List (List UInt8), Lib.join l [] = l.flatten
  | [] => rfl
  | [x] => by simp [Lib.join]
  | x :: y :: r => by
    have := join_flat (y :: r)
    simp only [Lib.join, List.append_nil, List.flatten_cons] at *
    simp [this]
/-- strings.Join without a text between. -/
theorem join_any {w : World} {ss : List (List UInt8)} {sv : Value} (h : SlAt w sv ss.length (strC ss)) (f1 : ss.length ≤ 1000) (f2 : ss.flatten.length ≤ 1000000) :
    Calls Try.prog 45 #[sv, str []] w fun e w' => e = .returned (str ss.flatten) ∧ Below w.heap.size w w' := by
  obtain ⟨A, c, rfl⟩ := h.form
  cases ss with
  | nil =>
    refine (Try.strings_Join_none A c ⟨#[]⟩ w).mono ?_
    rintro e w' ⟨rfl, rfl⟩
    exact ⟨rfl, Below.refl _ _⟩
  | cons s r =>
    obtain ⟨_, c', e1, hc, hcl⟩ := h
    cases e1
    obtain ⟨b, o, rfl, hb, hcell⟩ := hcl (by simp)
    obtain ⟨xs, hxs⟩ : ∃ xs : List ByteArray, xs = (s :: r).map fun l => ⟨l.toArray⟩ := ⟨_, rfl⟩
    have hxl : xs.length = (s :: r).length := by rw [hxs, List.length_map]
    have hxd : Lib.join (xs.map (·.data.toList)) ([] : List UInt8) = (s :: r).flatten := by
      rw [join_flat, hxs, List.map_map]
      congr 1
      exact (List.map_congr_left (fun l _ => by simp)).trans (List.map_id _)
    have := Try.strings_Join b o c xs ⟨#[]⟩ w (fun j x hx => by
      refine hcell j (.string x) ?_
      rw [hxs, List.getElem?_map] at hx
      cases hq : (s :: r)[j]? with
      | none => rw [hq] at hx; cases hx
      | some u =>
        rw [hq] at hx
        simp only [Option.map_some, Option.some.injEq] at hx
        rw [← hx]
        exact strC_at hq) hb (by rw [hxl]; omega) (by rw [hxl]; exact hc) (by
        show (Lib.join (xs.map (·.data.toList)) ([] : List UInt8)).length ≤ _
        rw [hxd]; omega)
    rw [hxl] at this
    refine this.mono ?_
    rintro e w' ⟨rfl, hb'⟩
    refine ⟨?_, hb'⟩
    show Ending.returned (.string ⟨(Lib.join (xs.map (·.data.toList)) ([] : List UInt8)).toArray⟩) = _
    rw [hxd]
theorem makeS_le (l : List (List UInt8)) : (makeS l).length ≤ (l.headD []).length := by
  unfold makeS
  split
  · rename_i h
    have he := h.2
    unfold evenB at he
    rw [List.all_eq_true] at he
    rw [parN_len (fun x hx => by simpa using he x hx)]
    exact Nat.le_refl _
  · exact Nat.zero_le _
theorem againS_le {L : List Col} {got : List (List UInt8)} (h64 : ∀ s ∈ got, s.length ≤ 64) (at_ : Nat) : (againS L got at_).length ≤ 64 := by
  have hg : ∀ i, (got.getD i []).length ≤ 64 := fun i => by
    rw [List.getD_eq_getElem?_getD]
    cases h : got[i]? with
    | none => exact Nat.zero_le _
    | some u => exact h64 u (List.mem_of_getElem? h)
  have key : ∀ R : List Nat, (makeS (R.map fun i => got.getD i [])).length ≤ 64 := fun R => by
    refine Nat.le_trans (makeS_le _) ?_
    cases R with
    | nil => exact Nat.zero_le _
    | cons a r => exact hg a
  unfold againS
  simp only
  split
  · exact Nat.zero_le _
  · exact key _
theorem colTxt_le {L : List Col} {got : List (List UInt8)} (h64 : ∀ s ∈ got, s.length ≤ 64) (dev : Int) (i : Nat) : (colTxt L got dev i).length ≤ 64 := by
  unfold colTxt
  split
  · exact againS_le h64 i
  · rw [List.getD_eq_getElem?_getD]
    cases h : got[i]? with
    | none => exact Nat.zero_le _
    | some u => exact h64 u (List.mem_of_getElem? h)
theorem flat_le : ∀ {l : List (List UInt8)}, (∀ s ∈ l, s.length ≤ 64) → l.flatten.length ≤ 64 * l.length
  | [], _ => by simp
  | s :: r, h => by
    have h1 := h s List.mem_cons_self
    have h2 := flat_le (l := r) (fun x hx => h x (List.mem_cons_of_mem _ hx))
    rw [List.flatten_cons, List.length_append, List.length_cons]
    omega
set_option maxRecDepth 20000 in
set_option maxHeartbeats 1000000 in
theorem without_any {w : World} {L : List Col} {got : List (List UInt8)} {lv gv : Value} (hl : SlAt w lv L.length (colsCells L)) (hg : SlAt w gv got.length (strC got)) (hgl : got.length = L.length) (hL64 : L.length ≤ 64) (h64 : ∀ s ∈ got, s.length ≤ 64) (dev : Int) :
    Calls Try.prog 50 #[lv, gv, .int .i64 dev] w fun e w' => e = .returned (str (withS L got dev)) ∧ Below w.heap.size w w' := by
  obtain ⟨Al, cl, rfl⟩ := hl.form
  obtain ⟨Ag, cg, rfl⟩ := hg.form
  rw [hgl] at hg ⊢
  have HGG : Hid (SlAt w (.slice Ag L.length cg) got.length (strC got)) := Lib.hid (by rw [hgl]; exact hg)
  obtain ⟨w1, hw1⟩ : ∃ z, w.alloc (.cells #[.pointer none, .slice none 0 0] 90) = z := ⟨_, rfl⟩
  have hd1 : Below w.heap.size w w1 := by rw [← hw1]; exact keep_alloc (Below.refl _ _) _
  have hs1 : w.heap.size + 1 ≤ w1.heap.size := by rw [← hw1]; simp
  have hI1 : Lib.IsBuilder 90 5 w.heap.size w.heap.size (Lib.byteCells []) w1 := .inl ⟨Nat.le_refl _, .slice none 0 0, by rw [← hw1]; exact Blk.new w _ _, World.ownsRow_nil _ _ _ _, by simp [Value.ownBlock]⟩
  have H := Lib.hid hl
  have HG := Lib.hid hg
  have HGL := Lib.hid hgl
  have H64 := Lib.hid h64
  have HLL := Lib.hid hl
  have HW1 := Lib.hid hw1
  have HI1 := Lib.hid (And.intro hI1 (And.intro hd1 hs1))
  have HRES : Hid (withS L got dev = if hasE ((dataIx L L.length).map (colTxt L got dev)) then [] else ((dataIx L L.length).map (colTxt L got dev)).flatten) := Lib.hid rfl
  clear hl hg hgl h64 hw1 hI1 hd1 hs1
  go_enter Try.func50, Try.ntmps50
  go_wp2_with fail
  rw [HW1.out]
  go_loopw [8, 9, 10, 13] (fun _ _ _ t wr => ∃ k : Nat, k ≤ L.length ∧ t = .int .i64 k ∧ Lib.IsBuilder 90 5 w.heap.size w.heap.size (Lib.byteCells ((dataIx L k).map (colTxt L got dev)).flatten) wr ∧ hasE ((dataIx L k).map (colTxt L got dev)) = false ∧ Below w.heap.size w wr ∧ w.heap.size + 1 ≤ wr.heap.size) (fun _ _ _ t _ => L.length - (RowKit.intOf t).toNat)
  case atStart => exact ⟨0, Nat.zero_le _, rfl, HI1.out.1, rfl, HI1.out.2.1, HI1.out.2.2⟩
  case round =>
    obtain ⟨k, hk, rfl, hI, hE, hb, hs⟩ := hrel
    have HB := Lib.hid hb
    have HI := Lib.hid hI
    have HE := Lib.hid hE
    have HS := Lib.hid hs
    clear hb hI hE hs
    by_cases hlt : k < L.length
    · obtain ⟨b, o, rfl, hbl, hcell⟩ := H.out.cells (by omega)
      obtain ⟨x, hx⟩ : ∃ x, L[k]? = some x := ⟨_, List.getElem?_eq_getElem hlt⟩
      obtain ⟨q0, q1, q2, q3⟩ := colsCells_at hx
      have hcl : ∀ j u, (colsCells L)[j]? = some u → wr.cell? ⟨b, o + j, none⟩ = some u := fun j u hu => (World.cell?_of_block (HB.out.block b hbl)).trans (hcell j u hu)
      have f0 : wr.cell? ⟨b, o + k * 4, none⟩ = some (.int .i64 x.1) := hcl _ _ q0
      have f1 : wr.cell? ⟨b, o + k * 4 + 1, none⟩ = some (.int .i64 x.2.1) := hcl _ _ q1
      have f2 : wr.cell? ⟨b, o + k * 4 + 2, none⟩ = some (.bool x.2.2.1) := hcl _ _ q2
      have f3 : wr.cell? ⟨b, o + k * 4 + 3, none⟩ = some (.int .i64 x.2.2.2) := hcl _ _ q3
      have hdc : decide (k < L.length) = true := decide_eq_true hlt
      have HLT := Lib.hid hlt
      have HX := Lib.hid hx
      have hi44 : (Try.prog.info? 40).map (·.size) = some (#[.int .i64 x.1, .int .i64 x.2.1, .bool x.2.2.1, .int .i64 x.2.2.2] : Array Value).size := by kernel_rfl
      have h1c : (#[.int .i64 x.1, .int .i64 x.2.1, .bool x.2.2.1, .int .i64 x.2.2.2] : Array Value).all (·.oneCell') = true := by kernel_rfl
      have Z2 : Blk (wr.alloc (.cells colZ 40)) wr.heap.size 40 colZ := Blk.new _ _ _
      have hth : (wr.alloc (.cells colZ 40)).there wr.heap.size 0 (#[.int .i64 x.1, .int .i64 x.2.1, .bool x.2.2.1, .int .i64 x.2.2.2] : Array Value).size := Z2.there (Nat.le_refl _)
      obtain ⟨w2, hw2⟩ : ∃ y, (wr.alloc (.cells colZ 40)).setCells wr.heap.size 0 (#[.int .i64 x.1, .int .i64 x.2.1, .bool x.2.2.1, .int .i64 x.2.2.2] : Array Value).toList = y := ⟨_, rfl⟩
      have X2 : Blk w2 wr.heap.size 40 #[.int .i64 x.1, .int .i64 x.2.1, .bool x.2.2.1, .int .i64 x.2.2.2] := by rw [← hw2]; exact Z2.putAll _ rfl
      have hb2 : Below wr.heap.size wr w2 := by rw [← hw2]; exact below_sets _ _ (keep_alloc (Below.refl _ _) _) (Nat.le_refl _)
      have hs2 : w2.heap.size = wr.heap.size + 1 := by rw [← hw2, sets_size', World.size_alloc]
      have HW2 := Lib.hid hw2
      have HX2 := Lib.hid X2
      have HK2 := Lib.hid hb2
      have HS2 := Lib.hid hs2
      have e2 : w2.cell? ⟨wr.heap.size, 2, none⟩ = some (.bool x.2.2.1) := X2.at_ rfl
      have e3 : w2.cell? ⟨wr.heap.size, 3, none⟩ = some (.int .i64 x.2.2.2) := X2.at_ rfl
      clear q0 q1 q2 q3 hcl hcell hx hbl hw2 X2 hb2 hs2 Z2
      have HD2B := Lib.hid (HB.out.trans (HK2.out.mono HB.out.size))
      have HI2 := Lib.hid (isB_keep HI.out HK2.out)
      have e0 : w2.cell? ⟨wr.heap.size, 0, none⟩ = some (.int .i64 x.1) := HX2.out.at_ rfl
      have hstep := dataIx_step L k
      rw [getD_at HX.out] at hstep
      clear e3
      cases hp : x.2.2.1 with
      | true =>
        rw [hp] at e2 hstep
        have HT : Hid (dataIx L (k + 1) = dataIx L k) := Lib.hid (by rw [hstep]; simp)
        clear hp hstep
        repeat' (first
          | (((with_reducible refine wpList_store_mid ?a1 40 (.tmp 9) (.tmp 17) ?a2 wr.heap.size 0 #[.int .i64 x.1, .int .i64 x.2.1, .bool x.2.2.1, .int .i64 x.2.2.2] ?a3 ?a4 hth hi44 h1c ?_); (case a1 => rfl); (case a2 => rfl); (case a3 => rfl); (case a4 => rfl); simp only [Act.put, List.setIfInBounds_toArray, List.set_cons_zero, List.set_cons_succ]; rw [HW2.out]))
          | go_values
          | go_skip
          | go_guarded
          | ((fail_if_success (with_reducible refine drawn_mark ?_))
             first
               | go_step
               | go_upon
               | go_back
               | (simp only [Int.not_lt, Int.not_le] at *; go_simp)
               | (go_values <;> (try go_simp))
               | (go_ite <;> go_prune <;> (try go_simp))
               | (split <;> (first | (rename_i hx; exact (hx _ rfl).elim) | go_prune))))
        go_roundw
        case rel => exact ⟨k + 1, HLT.out, by go_num, by rw [HT.out]; exact HI2.out, by rw [HT.out]; exact HE.out, HD2B.out, Nat.le_trans HS.out HK2.out.size⟩
        case measure => have := HLT.out; simp [RowKit.intOf]; omega
      | false =>
        rw [hp] at e2 hstep
        obtain ⟨s, hs⟩ : ∃ s, got[k]? = some s := ⟨_, List.getElem?_eq_getElem (by rw [HGL.out]; exact hlt)⟩
        obtain ⟨b2, o2, rfl, hl2, hc2⟩ := HG.out.cells (by omega)
        have gs : w2.cell? ⟨b2, o2 + k, none⟩ = some (str s) := keep_cell HD2B.out (hc2 k (str s) (strC_at hs)) hl2
        obtain ⟨u, hu⟩ : ∃ u, colTxt L got dev k = u := ⟨_, rfl⟩
        have HT : Hid ((dataIx L (k + 1)).map (colTxt L got dev) = (dataIx L k).map (colTxt L got dev) ++ [u]) := Lib.hid (by rw [hstep]; simp [hu])
        have HU : Hid (u = if x.1 == dev then againS L got k else s) := Lib.hid (by rw [← hu]; unfold colTxt; rw [getD_at HX.out, gotD_at hs])
        have HUL : Hid (u.length ≤ 64) := Lib.hid (by rw [← hu]; exact colTxt_le H64.out dev k)
        have HFL : Hid (((dataIx L k).map (colTxt L got dev)).flatten.length ≤ 64 * k) := Lib.hid (by
          refine Nat.le_trans (flat_le (fun s hs => ?_)) (Nat.mul_le_mul_left 64 (by rw [List.length_map]; exact dataIx_len L k))
          obtain ⟨i, _, rfl⟩ := List.mem_map.1 hs
          exact colTxt_le H64.out dev i)
        have hkg := hlt
        have HAG := Lib.hid (fun W (hW : Below w.heap.size w W) => again_any (HLL.out.below hW) (HGG.out.below hW) HGL.out hL64 H64.out hlt)
        obtain ⟨Y, hY⟩ : ∃ Y, (dataIx L k).map (colTxt L got dev) = Y := ⟨_, rfl⟩
        rw [hY] at HI2 HT HFL HE
        clear hp hstep hs hc2 hl2 hu hY HI HG
        cases hdv : (x.1 == dev) with
        | true =>
          rw [hdv] at HU
          repeat' (first
            | (((with_reducible refine wpList_store_mid ?a1 40 (.tmp 9) (.tmp 17) ?a2 wr.heap.size 0 #[.int .i64 x.1, .int .i64 x.2.1, .bool x.2.2.1, .int .i64 x.2.2.2] ?a3 ?a4 hth hi44 h1c ?_); (case a1 => rfl); (case a2 => rfl); (case a3 => rfl); (case a4 => rfl); simp only [Act.put, List.setIfInBounds_toArray, List.set_cons_zero, List.set_cons_succ]; rw [HW2.out]))
            | go_values
            | go_skip
            | go_guarded
            | ((fail_if_success (with_reducible refine drawn_mark ?_))
               first
                 | go_step
                 | go_upon
                 | go_back
                 | (simp only [Int.not_lt, Int.not_le] at *; go_simp)
                 | (go_values <;> (try go_simp))
                 | (go_ite <;> go_prune <;> (try go_simp))
                 | (split <;> (first | (rename_i hx; exact (hx _ rfl).elim) | go_prune))))
          refine (HAG.out w2 HD2B.out).mono ?_
          rintro e w3 ⟨rfl, hb3⟩
          have hU : againS L got k = u := by rw [HU.out]; rfl
          rw [hU]
          have HI3 := Lib.hid (isB_keep HI2.out hb3)
          have HB3 := Lib.hid (keep_below hb3 HD2B.out)
          have HB3s := Lib.hid hb3.size
          clear hb3 hU gs e0 e2 hdv HAG f0 f1 f2 f3
          by_cases hue : u = []
          · have hu1 : (u == []) = true := by rw [hue]; rfl
            have HEE : Hid (hasE ((dataIx L L.length).map (colTxt L got dev)) = true) := Lib.hid (by
              unfold hasE
              rw [List.any_eq_true]
              refine ⟨u, ?_, by rw [hue]; rfl⟩
              have hm : u ∈ (dataIx L (k + 1)).map (colTxt L got dev) := by rw [HT.out]; simp
              obtain ⟨i, hi, rfl⟩ := List.mem_map.1 hm
              refine List.mem_map.2 ⟨i, ?_, rfl⟩
              have h1 := HLT.out
              unfold dataIx at hi ⊢
              rw [List.mem_filter, List.mem_range] at hi ⊢
              exact ⟨by omega, hi.2⟩)
            rw [HEE.out] at HRES
            clear hue
            go_wp2_with fail
            go_ret
            rw [HRES.out]
            exact ⟨rfl, HB3.out⟩
          · have hu1 : (u == []) = false := beq_eq_false_iff_ne.2 hue
            have hu2 : u.isEmpty = false := by simpa using hue
            have HEE : Hid (hasE (Y ++ [u]) = false) := Lib.hid (by rw [hasE_snoc, HE.out, hu2]; rfl)
            have HS3 : Hid (w.heap.size + 1 ≤ w3.heap.size) := Lib.hid (Nat.le_trans HS.out (Nat.le_trans HK2.out.size (by first | exact Nat.le_refl _ | exact HB3s.out)))
            have HWS := Lib.hid (wrS_any w.heap.size w.heap.size _ u w3 HI3.out (by rw [Lib.byteCells_length]; have := HFL.out; have := HUL.out; rw [show (ByteArray.mk u.toArray).size = u.length from by simp [ByteArray.size]]; omega) (by have := HS3.out; omega))
            clear hue
            go_wp2_with fail
            refine HWS.out.mono ?_
            rintro e w4 ⟨rfl, hI4, hb4⟩
            have HI4 : Hid (Lib.IsBuilder 90 5 w.heap.size w.heap.size (Lib.byteCells (Y ++ [u]).flatten) w4) := Lib.hid (.inr (by
              have e : Lib.byteCells (Y ++ [u]).flatten = Lib.byteCells Y.flatten ++ Lib.strCells ⟨u.toArray⟩ := by show _ = Lib.byteCells Y.flatten ++ Lib.byteCells u; simp [Lib.byteCells]
              rw [e]; exact hI4))
            have HB4 := Lib.hid (And.intro (HB3.out.trans hb4) (Nat.le_trans HS3.out hb4.size))
            clear hI4 hb4
            go_wp2_with fail
            go_roundw
            case rel => exact ⟨k + 1, HLT.out, by go_num, by rw [HT.out]; exact HI4.out, by rw [HT.out]; exact HEE.out, HB4.out.1, HB4.out.2⟩
            case measure => have := HLT.out; simp [RowKit.intOf]; omega
        | false =>
          rw [hdv] at HU
          have hU : u = s := by rw [HU.out]; rfl
          subst hU
          have HI3 := HI2
          have HB3 := HD2B
          by_cases hue : u = []
          · have hu1 : (u == []) = true := by rw [hue]; rfl
            have HEE : Hid (hasE ((dataIx L L.length).map (colTxt L got dev)) = true) := Lib.hid (by
              unfold hasE
              rw [List.any_eq_true]
              refine ⟨u, ?_, by rw [hue]; rfl⟩
              have hm : u ∈ (dataIx L (k + 1)).map (colTxt L got dev) := by rw [HT.out]; simp
              obtain ⟨i, hi, rfl⟩ := List.mem_map.1 hm
              refine List.mem_map.2 ⟨i, ?_, rfl⟩
              have h1 := HLT.out
              unfold dataIx at hi ⊢
              rw [List.mem_filter, List.mem_range] at hi ⊢
              exact ⟨by omega, hi.2⟩)
            rw [HEE.out] at HRES
            clear hue
            repeat' (first
              | (((with_reducible refine wpList_store_mid ?a1 40 (.tmp 9) (.tmp 17) ?a2 wr.heap.size 0 #[.int .i64 x.1, .int .i64 x.2.1, .bool x.2.2.1, .int .i64 x.2.2.2] ?a3 ?a4 hth hi44 h1c ?_); (case a1 => rfl); (case a2 => rfl); (case a3 => rfl); (case a4 => rfl); simp only [Act.put, List.setIfInBounds_toArray, List.set_cons_zero, List.set_cons_succ]; rw [HW2.out]))
              | go_values
              | go_skip
              | go_guarded
              | ((fail_if_success (with_reducible refine drawn_mark ?_))
                 first
                   | go_step
                   | go_upon
                   | go_back
                   | (simp only [Int.not_lt, Int.not_le] at *; go_simp)
                   | (go_values <;> (try go_simp))
                   | (go_ite <;> go_prune <;> (try go_simp))
                   | (split <;> (first | (rename_i hx; exact (hx _ rfl).elim) | go_prune))))
            go_ret
            rw [HRES.out]
            exact ⟨rfl, HB3.out⟩
          · have hu1 : (u == []) = false := beq_eq_false_iff_ne.2 hue
            have hu2 : u.isEmpty = false := by simpa using hue
            have HEE : Hid (hasE (Y ++ [u]) = false) := Lib.hid (by rw [hasE_snoc, HE.out, hu2]; rfl)
            have HS3 : Hid (w.heap.size + 1 ≤ w2.heap.size) := Lib.hid (Nat.le_trans HS.out (Nat.le_trans HK2.out.size (by first | exact Nat.le_refl _ | exact HB3s.out)))
            have HWS := Lib.hid (wrS_any w.heap.size w.heap.size _ u w2 HI3.out (by rw [Lib.byteCells_length]; have := HFL.out; have := HUL.out; rw [show (ByteArray.mk u.toArray).size = u.length from by simp [ByteArray.size]]; omega) (by have := HS3.out; omega))
            clear hue
            repeat' (first
              | (((with_reducible refine wpList_store_mid ?a1 40 (.tmp 9) (.tmp 17) ?a2 wr.heap.size 0 #[.int .i64 x.1, .int .i64 x.2.1, .bool x.2.2.1, .int .i64 x.2.2.2] ?a3 ?a4 hth hi44 h1c ?_); (case a1 => rfl); (case a2 => rfl); (case a3 => rfl); (case a4 => rfl); simp only [Act.put, List.setIfInBounds_toArray, List.set_cons_zero, List.set_cons_succ]; rw [HW2.out]))
              | go_values
              | go_skip
              | go_guarded
              | ((fail_if_success (with_reducible refine drawn_mark ?_))
                 first
                   | go_step
                   | go_upon
                   | go_back
                   | (simp only [Int.not_lt, Int.not_le] at *; go_simp)
                   | (go_values <;> (try go_simp))
                   | (go_ite <;> go_prune <;> (try go_simp))
                   | (split <;> (first | (rename_i hx; exact (hx _ rfl).elim) | go_prune))))
            clear gs e0 e2 HAG f0 f1 f2 f3 hdv
            refine HWS.out.mono ?_
            rintro e w4 ⟨rfl, hI4, hb4⟩
            have HI4 : Hid (Lib.IsBuilder 90 5 w.heap.size w.heap.size (Lib.byteCells (Y ++ [u]).flatten) w4) := Lib.hid (.inr (by
              have e : Lib.byteCells (Y ++ [u]).flatten = Lib.byteCells Y.flatten ++ Lib.strCells ⟨u.toArray⟩ := by show _ = Lib.byteCells Y.flatten ++ Lib.byteCells u; simp [Lib.byteCells]
              rw [e]; exact hI4))
            have HB4 := Lib.hid (And.intro (HB3.out.trans hb4) (Nat.le_trans HS3.out hb4.size))
            clear hI4 hb4
            go_wp2_with fail
            go_roundw
            case rel => exact ⟨k + 1, HLT.out, by go_num, by rw [HT.out]; exact HI4.out, by rw [HT.out]; exact HEE.out, HB4.out.1, HB4.out.2⟩
            case measure => have := HLT.out; simp [RowKit.intOf]; omega
    · obtain rfl : k = L.length := by omega
      have hdc : decide ((L.length : Int) < L.length) = false := decide_eq_false (by omega)
      have HST := Lib.hid (stS_any w.heap.size w.heap.size _ wr HI.out (by have := HS.out; omega))
      rw [HE.out] at HRES
      obtain ⟨F, hF⟩ : ∃ F, ((dataIx L L.length).map (colTxt L got dev)).flatten = F := ⟨_, rfl⟩
      rw [hF] at HST HRES
      clear hF HI
      go_wp2_with fail
      refine HST.out.mono ?_
      rintro e w3 ⟨rfl, hb3⟩
      have HB3 := Lib.hid (HB.out.trans hb3)
      clear hb3
      go_wp2_with fail
      go_ret
      rw [HRES.out]
      exact ⟨rfl, HB3.out⟩
end Go.Proofs.Ytefhmemmfajbfaa
