/-
  Package model: Rollback, Snap, Destroy and acts, just so.
-/
import Derived.Test.YtckicdbiiepngaaRd1
namespace Go.Proofs.Ytckicdbiiepngaa
set_option linter.unusedVariables false
set_option linter.unusedSimpArgs false
open Go.RowKit Go.Maps Go.Lib Go.Shelf

theorem ids_get {a : AllA} {id : Int} {k : Nat} (h : fstN a.ids id = some k) : k < a.snaps.length := by
  have := (List.getElem?_eq_some_iff.1 (fstN_some h).1).1
  simpa [AllA.ids] using this
theorem fstI_or (l : List Int) (id : Int) : (fstN l id = none ∧ fstI l id = -1) ∨ (∃ k : Nat, fstN l id = some k ∧ fstI l id = k) := by
  unfold fstI
  cases h : fstN l id with
  | none => exact .inl ⟨rfl, rfl⟩
  | some k => exact .inr ⟨k, rfl, rfl⟩
set_option maxRecDepth 20000 in
theorem rollback_x {w : World} {S : Nat → Prop} {b : Nat} {d : ModD} {N : Nat} (h : ModAt w S b d N) (id : Int) :
    Calls Try.prog 29 #[.pointer (some ⟨b, 0, none⟩), .int .i64 id] w fun e w' => ∃ er, e = .returned (.int .i64 er) ∧ ActX w w' S b d N (rolA d.now id) := by
  have H := Lib.hid h
  have HF := Lib.hid (found_x h id)
  clear h
  go_enter Try.func29, Try.ntmps29
  go_wp2_with fail
  refine HF.out.mono ?_
  rintro e w1 ⟨⟨i, hfi, rfl⟩ | ⟨hfi, rfl⟩, hb1⟩
  · have hi := ids_get hfi
    have HB1 := Lib.hid hb1
    have h := H.out.below hb1
    have hlt := H.out.lt
    obtain ⟨m1, A1, n1, c1, m2, A2, n2, c2, S1, S2, h1, h2, h3, h4, h5, h6, h7⟩ := h
    have h2' := h2
    obtain ⟨rs, hl, hr, hm1, hrs, hrb, hnd⟩ := h2
    obtain ⟨A1', c1', he⟩ := hr.form
    cases he
    have hir : i < rs.length := by rw [hr.len]; exact hi
    obtain ⟨r, hri⟩ : ∃ r, rs[i]? = some r := ⟨_, List.getElem?_eq_getElem hir⟩
    obtain ⟨p, hpi⟩ : ∃ p, d.now.snaps[i]? = some p := ⟨_, List.getElem?_eq_getElem hi⟩
    obtain ⟨g1, rfl⟩ : ∃ gv, A1 = some ⟨gv, 0, none⟩ := by
      rcases hr.row.2 with ⟨_, h0⟩ | ⟨b, cap, cur, he, _⟩
      · omega
      · cases he; exact ⟨b, rfl⟩
    have a2 := hr.row.cells (g := g1) rfl _ _ (rowC_at rs i r hri).2
    rw [Addr.add_mid, Nat.zero_add] at a2
    have k1 := h1.at_ (i := 1) rfl
    have hmp := hr.maps i r p hri hpi
    have HMP := Lib.hid hmp
    have few := hr.few
    have HRO : Hid (rolA d.now id = ⟨p.2, d.now.snaps⟩) := Lib.hid (by unfold rolA; rw [hfi]; simp only; rw [List.getD_eq_getElem?_getD, hpi]; rfl)
    clear hfi
    have hdi : decide (i < rs.length) = true := decide_eq_true hir
    have HX1 := Lib.hid h1
    have HALL := Lib.hid (And.intro h3 (And.intro h4 (And.intro h5 (And.intro h6 h7))))
    have HR := Lib.hid (And.intro hl (And.intro hr (And.intro hm1 (And.intro hrs (And.intro hrb hnd)))))
    clear hb1 h1 h2' hl hr hm1 hrs hrb hnd hi hri hpi hmp h3 h4 h5 h6 h7 hlt
    go_wp2_with fail
    refine (clone_any HMP.out).mono ?_
    rintro e w2 ⟨rfl, hm2, hs2, hb2⟩
    have hk2 := HX1.out.below hb2 HX1.out.lt
    have z0 := hk2.fr 0
    have c0 := hk2.at_ (i := 0) rfl
    have HM2 := Lib.hid hm2
    have HS2 := Lib.hid hs2
    have HB2 := Lib.hid hb2
    have HK2 := Lib.hid hk2
    clear hm2 hs2 hb2 hk2 k1 a2
    go_wp2_with fail
    obtain ⟨w3, hw3⟩ : ∃ x, x = w2.setCell ⟨b, 0, none⟩ (.map (some w1.heap.size)) := ⟨_, rfl⟩
    have hk3 : Blk w3 b 63 #[.map (some w1.heap.size), .slice (some ⟨g1, 0, none⟩) rs.length c1, .map (some m2), .slice A2 n2 c2] := by rw [hw3]; exact HK2.out.put 0 _
    have g3 : ∀ i, i ≠ b → w3.heap[i]? = w2.heap[i]? := fun i hi => by rw [hw3]; exact Below.heap_setCell _ ⟨b, 0, none⟩ _ i hi
    have hs3 : w3.heap.size = w2.heap.size := by rw [hw3]; simp [World.setCell]
    have ho : Only S w w3 := by rw [hw3]; exact ((Only.of_below HB1.out).then_below HB2.out).set (.inl H.out.has) _
    rw [← hw3]
    go_ret
    obtain ⟨h3, h4, h5, h6, h7⟩ := HALL.out
    obtain ⟨hl, hr, hm1, hrs, hrb, hnd⟩ := HR.out
    have q1 := HB1.out.size
    have q2 := HS2.out
    have q3 := HX1.out.lt
    rw [HRO.out]
    refine ⟨_, rfl, ⟨⟨w1.heap.size, _, _, _, m2, A2, n2, c2, fun i => (S1 i ∧ i < w1.heap.size) ∨ i = w1.heap.size, fun i => S2 i ∧ i < w1.heap.size, hk3, ⟨rs, ?_, ?_, .inr rfl, fun r hr' => .inl ⟨hrs r hr', hr.lt.2 r hr'⟩, fun x hx => .inl ⟨hrb x hx, hr.lt.1 x hx⟩, ?_⟩, ?_, ?_, ?_, .inl H.out.has, ?_⟩, ho⟩⟩
    · exact World.ownsMap.mono (MapT.same HM2.out (g3 _ (by omega))) (by omega)
    · exact ((hr.below HB2.out).same (fun x hx => g3 x (h4 x (hrb x hx)).2.1) (fun r hr' => g3 _ (h4 _ (hrs r hr')).2.1)).monoN (by omega)
    · rw [List.nodup_cons] at hnd ⊢
      refine ⟨fun hmem => ?_, hnd.2⟩
      obtain ⟨r', hr', e⟩ := List.mem_map.1 hmem
      have := hr.lt.2 r' hr'
      omega
    · exact ((h3.mono (T := fun i => S2 i ∧ i < w1.heap.size) (fun i a c => ⟨c, a⟩)).below HB2.out).same (fun i hi _ => g3 i (h5 i hi.1).2) |>.monoN (by omega)
    · intro i hi
      rcases hi with hi | rfl
      · exact ⟨.inl (h4 i hi.1).1, (h4 i hi.1).2.1, fun h => (h4 i hi.1).2.2 h.1⟩
      · exact ⟨.inr ⟨by omega, by omega⟩, by omega, fun h => by omega⟩
    · intro i hi; exact ⟨.inl (h5 i hi.1).1, (h5 i hi.1).2⟩
    · intro i hi
      rcases hi with hi | hi
      · have := H.out.lt i hi; omega
      · exact hi.2
  · have HB1 := Lib.hid hb1
    have HNO : Hid (rolA d.now id = d.now) := Lib.hid (by unfold rolA; rw [hfi])
    clear hb1 hfi
    go_wp2_with fail
    go_ret
    first | exact ⟨_, rfl, ActX.below H.out HB1.out HNO.out⟩ | exact ⟨⟨_, rfl⟩, ActX.below H.out HB1.out HNO.out⟩

set_option maxRecDepth 20000 in
theorem snap_x {w : World} {S : Nat → Prop} {b : Nat} {d : ModD} {N : Nat} (h : ModAt w S b d N) (id : Int) :
    Calls Try.prog 27 #[.pointer (some ⟨b, 0, none⟩), .int .i64 id] w fun e w' => ∃ er, e = .returned (.int .i64 er) ∧ ActX w w' S b d N (snaA d.now id) := by
  obtain ⟨i0, hi, hz0, hz1, hz2⟩ := info_parts Try.infoSn
  have H := Lib.hid h
  have HF := Lib.hid (find_x h id)
  clear h
  go_enter Try.func27, Try.ntmps27
  by_cases hlo : id < 0
  · have g1 : decide (id < 0) = true := decide_eq_true hlo
    have HNO : Hid (snaA d.now id = d.now) := Lib.hid (by unfold snaA; rw [if_neg (by omega)])
    go_wp2_with fail
    go_ret
    first | exact ⟨_, rfl, ActX.none H.out HNO.out⟩ | exact ⟨⟨_, rfl⟩, ActX.none H.out HNO.out⟩
  have g1 : decide (id < 0) = false := decide_eq_false hlo
  by_cases hup : 99 < id
  · have g2 : decide (99 < id) = true := decide_eq_true hup
    have HNO : Hid (snaA d.now id = d.now) := Lib.hid (by unfold snaA; rw [if_neg (by omega)])
    go_wp2_with fail
    go_ret
    first | exact ⟨_, rfl, ActX.none H.out HNO.out⟩ | exact ⟨⟨_, rfl⟩, ActX.none H.out HNO.out⟩
  have g2 : decide (99 < id) = false := decide_eq_false hup
  have HID : Hid (0 ≤ id ∧ id ≤ 99) := Lib.hid (by omega)
  clear hlo hup
  go_wp2_with fail
  refine HF.out.mono ?_
  rintro e w1 ⟨rfl, hb1⟩
  have HB1 := Lib.hid hb1
  rcases fstI_or d.now.ids id with ⟨hfi, hii⟩ | ⟨k, hfi, hii⟩
  · rw [hii]
    have HFI := Lib.hid hfi
    clear hfi hii
    have h := H.out.below hb1
    obtain ⟨m1, A1, n1, c1, m2, A2, n2, c2, S1, S2, h1, h2, h3, h4, h5, h6, h7⟩ := h
    obtain ⟨rs, hl, hr, hm1, hrs, hrb, hnd⟩ := h2
    obtain ⟨A1', c1', he⟩ := hr.form
    cases he
    have k0 := h1.at_ (i := 0) rfl
    have k1 := h1.at_ (i := 1) rfl
    have HX1 := Lib.hid h1
    have HALL := Lib.hid (And.intro h3 (And.intro h4 (And.intro h5 (And.intro h6 h7))))
    have HR := Lib.hid (And.intro hl (And.intro hr (And.intro hm1 (And.intro hrs (And.intro hrb hnd)))))
    have HL := Lib.hid hl
    have HROW := Lib.hid hr
    clear hb1 h1 hl hr hm1 hrs hrb hnd h3 h4 h5 h6 h7
    by_cases hfull : 4 ≤ rs.length
    · have g4 : decide (4 ≤ rs.length) = true := decide_eq_true hfull
      have HNO : Hid (snaA d.now id = d.now) := Lib.hid (by unfold snaA; rw [if_neg (fun h => by have := HROW.out.len; omega)])
      go_wp2_with fail
      go_ret
      first | exact ⟨_, rfl, ActX.below H.out HB1.out HNO.out⟩ | exact ⟨⟨_, rfl⟩, ActX.below H.out HB1.out HNO.out⟩
    have g4 : decide (4 ≤ rs.length) = false := decide_eq_false hfull
    have few : rs.length < 4 := by omega
    have HYES : Hid (snaA d.now id = ⟨d.now.live, d.now.snaps ++ [(id, d.now.live)]⟩) := Lib.hid (by unfold snaA; rw [if_pos ⟨HID.out.1, HID.out.2, HFI.out, by have := HROW.out.len; omega⟩])
    clear hfull
    repeat' (first
      | go_values
      | go_skip
      | go_guarded
      | ((fail_if_success (with_reducible refine drawn_mark ?_))
         first
           | go_step
           | go_upon
           | go_back
           | (simp only [Int.not_lt, Int.not_le] at *; go_simp)
           | (go_values <;> (try go_simp))
           | (go_ite <;> go_prune <;> (try go_simp))
           | (split <;> (first | (rename_i hx; exact (hx _ rfl).elim) | go_prune))))
    obtain ⟨S0, hS1⟩ : ∃ S0 : World → Prop, S0 = fun W => W.heap[b]? = w1.heap[b]? := ⟨_, rfl⟩
    have f0 : ∀ W, S0 W → W.cell? ⟨b, 0, none⟩ = some (.map (some m1)) := fun W hW => by rw [hS1] at hW; exact (show Blk W _ _ _ from hW.trans HX1.out).at_ rfl
    have f1 : ∀ W, S0 W → W.cell? ⟨b, 1, none⟩ = some (.slice A1 rs.length c1) := fun W hW => by rw [hS1] at hW; exact (show Blk W _ _ _ from hW.trans HX1.out).at_ rfl
    have hSw : S0 w1.drew := by rw [hS1]; rfl
    have hS2 : ∀ W, W.heap[b]? = w1.heap[b]? → S0 W := fun W a => by rw [hS1]; exact a
    have HSS := Lib.hid hS2
    clear hS1 hS2 k0 k1
    refine wp_region_eff S0 [12, 13, 14, 15] 19 (by kernel_rfl) (by kernel_rfl) (by kernel_rfl) hSw ?_
    simp only [List.take_succ_cons, List.take_zero, List.drop_succ_cons, List.drop_zero]
    refine wpLexE_take 12 (by kernel_rfl) (by kernel_rfl) ?_
    simp only [List.take_succ_cons, List.take_zero, List.drop_succ_cons, List.drop_zero]
    repeat (first
      | go_big_quiet_skip
      | (go_big_quiet_want
         go_big_quiet_op
         first
           | go_big_quiet_on
           | (apply Exists.intro
              refine ⟨fun W hW => ?_, ?_⟩
              · first
                  | exact rfl
                  | exact ⟨rfl, rfl⟩
                  | (have e0 := f0 W hW; have e1 := f1 W hW; simp only [e0, e1, Result.andThen_ok]; done)
                  | (have e0 := f0 W hW; have e1 := f1 W hW; simp only [e0, e1, Result.andThen_ok]; first | exact ⟨trivial, rfl⟩ | exact rfl | exact ⟨rfl, rfl⟩)
                  | (skip)
              go_big_quiet_on)))
    refine wpQuiet_nil ?_
    show wpLexE _ _ _ _ _ _ _ _ _
    refine wpLexE_eff (by kernel_rfl) rfl ?_
    go_wp2_with fail
    refine (clone_any (w := w1.drew) (N := N) (D := d.now.live) (MapT.same HL.out rfl)).mono ?_
    rintro e w7 ⟨rfl, hm7, hs7, hb7⟩
    have hd6 : w1.drew.heap.size = w1.heap.size := rfl
    rw [hd6] at hm7 hs7 hb7
    have HM7 := Lib.hid hm7
    have HS7 := Lib.hid hs7
    have HB7 : Hid (Below w1.heap.size w1 w7) := Lib.hid ⟨hb7.os, hb7.tape, hb7.output, hb7.size, fun i hi => hb7.block i hi⟩
    have HSW7 : Hid (S0 w7) := Lib.hid (HSS.out _ (HB7.out.block _ HX1.out.lt))
    clear hm7 hs7 hb7 hd6 hSw
    go_wp2_with fail
    refine ⟨rfl, HSW7.out, ?_⟩
    refine wpLexE_eff (by kernel_rfl) rfl ?_
    go_wp2_with fail
    refine ⟨rfl, HSW7.out, ?_⟩
    refine wpLexE_eff (by kernel_rfl) rfl ?_
    go_wp2_with fail
    have hx7 : ∀ (X : Obj) i, i < w7.heap.size → (w7.alloc X).heap[i]? = w7.heap[i]? := fun X i hi => Below.heap_alloc w7 X i hi
    have hbl := HX1.out.lt
    have e7 : b < w7.heap.size := by have := HS7.out; omega
    have g7 : ∀ i, i < w1.heap.size → w7.heap[i]? = w1.heap[i]? := fun i hi => HB7.out.block i hi
    refine ⟨rfl, HSS.out _ ((hx7 _ _ e7).trans (g7 _ hbl)), ?_⟩
    have hrow7 : (w7.alloc (.cells #[.int .i64 id, .map (some w1.heap.size)] 75)).ownsRow 0 75 2 (.slice A1 rs.length c1) rs.length (rowC rs) :=
      ownsRow_same HROW.out.row (fun b e => by have := HROW.out.lt.1 b e; exact (hx7 _ b (by have := HS7.out; omega)).trans (g7 b this))
    have hfw := HROW.out.few
    refine wpLexE_eff (by kernel_rfl) rfl ?_
    refine wpList_append_own_at _ rfl (.tmp 33) (.tmp 42) 58 rfl 0 75 i0 (.agg #[.int .i64 0, .map none]) 2 16 Try.underlying58 hi hz0 hz1 hz2 rfl (by decide) _ _ _ rfl hrow7 ⟨w7.heap.size, 0, none⟩ 1 1 [.int .i64 id, .map (some w1.heap.size)] rfl rfl ?c1 ?c2 (by unfold maxLen; omega) (by omega) (Nat.zero_le _) ?_
    case c1 =>
      intro j u hj
      rw [Addr.add_mid, Nat.zero_add]
      exact (Blk.new w7 75 #[.int .i64 id, .map (some w1.heap.size)]).at_ (by simpa using hj)
    case c2 => intro u hu; simp at hu; rcases hu with rfl | rfl <;> rfl
    intro v' w8 hown' hgrow hnil hloc
    obtain ⟨gn, cap8, rfl, _, _⟩ := hown'.form (by omega)
    have hnb : ∀ x, (Value.slice A1 rs.length c1).ownBlock = some x → S1 x ∧ x ≠ b ∧ x < w1.heap.size := fun x e => by
      obtain ⟨_, _, _, _, hrb, _⟩ := HR.out
      obtain ⟨_, h4, _⟩ := HALL.out
      exact ⟨hrb x e, (h4 x (hrb x e)).2.1, HROW.out.lt.1 x e⟩
    have g8 : ∀ i, i < w7.heap.size → (∀ x, (Value.slice A1 rs.length c1).ownBlock = some x → x ≠ i) → w8.heap[i]? = w7.heap[i]? := fun i hi hn => (hgrow.block i (by simp; omega) (fun e => hn i e.symm rfl)).trans (hx7 _ i hi)
    have hsz8 : w7.heap.size + 1 ≤ w8.heap.size := by have := hgrow.size; simpa using this
    have hb8 : w8.heap[b]? = w1.heap[b]? := (g8 _ e7 (fun x e => (hnb x e).2.1)).trans (g7 _ hbl)
    have hSw8 : S0 w8 := HSS.out _ hb8
    refine ⟨rfl, hSw8, ?_⟩
    have HG8 := Lib.hid g8
    have HO8 : Hid (Only S w1 w8) := Lib.hid (by
      have o1 : Only S w1 w7 := Only.of_below HB7.out
      have o2 : Only S w1 (w7.alloc (.cells #[.int .i64 id, .map (some w1.heap.size)] 75)) := o1.alloc _
      obtain ⟨_, h4, _⟩ := HALL.out
      exact o2.trans (Only.of_grown' (S := S) hgrow (fun x e => (h4 x (hnb x e).1).1)) (fun i hi => .inl hi))
    have HK8 : Hid (Blk w8 b 63 #[.map (some m1), .slice A1 rs.length c1, .map (some m2), .slice A2 n2 c2]) := Lib.hid (hb8.trans HX1.out)
    have c80 := f1 w8 hSw8
    have z80 : w8.frozen? ⟨b, 1, none⟩ = false := HK8.out.fr 1
    have HE7 := Lib.hid e7
    have HG7 := Lib.hid g7
    have HNB := Lib.hid hnb
    have HOWN := Lib.hid hown'
    have HLOC := Lib.hid hloc
    have HZ8 := Lib.hid hsz8
    clear hrow7 hown' hgrow hnil hloc g8 g7 hnb hsz8 hx7 e7 hb8
    simp only [Act.put, List.setIfInBounds_toArray, List.set_cons_zero, List.set_cons_succ]
    refine wpLexE_take 3 (by kernel_rfl) (by kernel_rfl) ?_
    simp only [List.take_succ_cons, List.take_zero, List.drop_succ_cons, List.drop_zero]
    repeat (first
      | go_big_quiet_skip
      | (go_big_quiet_want
         go_big_quiet_op
         first
           | go_big_quiet_on
           | (apply Exists.intro
              refine ⟨fun W hW => ?_, ?_⟩
              · first
                  | exact rfl
                  | exact ⟨rfl, rfl⟩
                  | (have e0 := f0 W hW; have e1 := f1 W hW; simp only [e0, e1, Result.andThen_ok]; done)
                  | (have e0 := f0 W hW; have e1 := f1 W hW; simp only [e0, e1, Result.andThen_ok]; first | exact ⟨trivial, rfl⟩ | exact rfl | exact ⟨rfl, rfl⟩)
                  | (skip)
              go_big_quiet_on)))
    refine wpQuiet_nil ?_
    show wpList _ _ _ _ _ _
    go_wp2_with fail
    obtain ⟨w9, hw9⟩ : ∃ x, x = w8.setCell ⟨b, 1, none⟩ (.slice (some ⟨gn, 0, none⟩) (rs.length + 1) cap8) := ⟨_, rfl⟩
    have g9 : ∀ i, i ≠ b → w9.heap[i]? = w8.heap[i]? := fun i hi => by rw [hw9]; exact Below.heap_setCell w8 ⟨b, 1, none⟩ _ i hi
    have hk9 : Blk w9 b 63 #[.map (some m1), .slice (some ⟨gn, 0, none⟩) (rs.length + 1) cap8, .map (some m2), .slice A2 n2 c2] := by rw [hw9]; exact HK8.out.put 1 _
    have hs9 : w9.heap.size = w8.heap.size := by rw [hw9]; simp [World.setCell]
    have ho : Only S w w9 := by
      rw [hw9]
      exact (((Only.of_below (S := S) HB1.out)).trans HO8.out (fun i hi => .inl hi)).set (.inl H.out.has) _
    rw [← hw9]
    go_ret
    obtain ⟨h3, h4, h5, h6, h7⟩ := HALL.out
    obtain ⟨hl, hr, hm1, hrs, hrb, hnd⟩ := HR.out
    have q1 := HB1.out.size
    have q2 := HS7.out
    have q3 := HX1.out.lt
    have q4 := HZ8.out
    have hrow : ∀ x, (Value.slice A1 rs.length c1).ownBlock = some x → ∀ i D0, MapT w1 i N D0 → x ≠ i := fun x e i D0 hm h => map_row hm hr.row (h ▸ e)
    have old : ∀ i, i < w1.heap.size → i ≠ b → (∀ x, (Value.slice A1 rs.length c1).ownBlock = some x → x ≠ i) → w9.heap[i]? = w1.heap[i]? := fun i hi h1 h2 => ((g9 i h1).trans (HG8.out i (by omega) h2)).trans (HG7.out i hi)
    have hgn : gn ≠ b ∧ ((S1 gn ∧ gn < w1.heap.size) ∨ (w1.heap.size < gn ∧ gn < w8.heap.size)) := by
      rcases HLOC.out with e | e
      · have := HNB.out gn e.symm; exact ⟨this.2.1, .inl ⟨this.1, this.2.2⟩⟩
      · simp [Value.ownBlock] at e
        have := (HOWN.out.lt gn rfl).2
        exact ⟨by omega, .inr ⟨by omega, this⟩⟩
    rw [HYES.out]
    refine ⟨_, rfl, ⟨⟨m1, _, _, _, m2, A2, n2, c2, fun i => (S1 i ∧ i < w1.heap.size) ∨ (w1.heap.size ≤ i ∧ i < w9.heap.size), fun i => S2 i ∧ i < w1.heap.size, hk9, ⟨rs ++ [(id, w1.heap.size)], ?_, ?_, .inl ⟨hm1, World.ownsMap.lt hl⟩, ?_, ?_, ?_⟩, ?_, ?_, ?_, .inl H.out.has, ?_⟩, ho⟩⟩
    · exact World.ownsMap.mono (MapT.same hl (old _ (World.ownsMap.lt hl) (h4 _ hm1).2.1 (fun x e => hrow x e _ _ hl))) (by omega)
    · have hlen2 : (rs ++ [(id, w1.heap.size)]).length = rs.length + 1 := by simp
      refine ⟨?_, by rw [List.length_append, List.length_append, hr.len]; rfl, ?_, ?_, by rw [hlen2]; omega⟩
      · rw [hlen2, rowC_snoc]
        exact ownsRow_same HOWN.out (fun x e => by cases e; exact g9 gn hgn.1)
      · intro i r1 p1 e1 e2
        by_cases hik : i < rs.length
        · rw [List.getElem?_append_left (by omega)] at e1
          rw [List.getElem?_append_left (by rw [← hr.len]; omega)] at e2
          exact hr.ids i r1 p1 e1 e2
        · have hi2 : i = rs.length := by have := (List.getElem?_eq_some_iff.1 e1).1; rw [hlen2] at this; omega
          subst hi2
          rw [List.getElem?_append_right (by omega), Nat.sub_self] at e1
          rw [List.getElem?_append_right (by rw [hr.len]; omega), hr.len, Nat.sub_self] at e2
          simp at e1 e2
          rw [← e1, ← e2]
      · intro i r1 p1 e1 e2
        by_cases hik : i < rs.length
        · rw [List.getElem?_append_left (by omega)] at e1
          rw [List.getElem?_append_left (by rw [← hr.len]; omega)] at e2
          have hm := hr.maps i r1 p1 e1 e2
          have hms := hrs r1 (List.mem_of_getElem? e1)
          exact World.ownsMap.mono (MapT.same hm (old _ (World.ownsMap.lt hm) (h4 _ hms).2.1 (fun x e => hrow x e _ _ hm))) (by omega)
        · have hi2 : i = rs.length := by have := (List.getElem?_eq_some_iff.1 e1).1; rw [hlen2] at this; omega
          subst hi2
          rw [List.getElem?_append_right (by omega), Nat.sub_self] at e1
          rw [List.getElem?_append_right (by rw [hr.len]; omega), hr.len, Nat.sub_self] at e2
          simp at e1 e2
          rw [← e1, ← e2]
          exact World.ownsMap.mono (MapT.same HM7.out ((g9 _ (by omega)).trans (HG8.out _ (by omega) (fun x e => by have := HNB.out x e; omega)))) (by omega)
    · intro r1 e1
      rcases List.mem_append.1 e1 with e1 | e1
      · exact .inl ⟨hrs r1 e1, hr.lt.2 r1 e1⟩
      · simp at e1; rw [e1]; exact .inr ⟨Nat.le_refl _, by show w1.heap.size < _; omega⟩
    · intro x e
      have hx : gn = x := by simpa [Value.ownBlock] using e
      rw [← hx]
      rcases hgn.2 with q | q
      · exact .inl q
      · exact .inr ⟨Nat.le_of_lt q.1, by rw [hs9]; exact q.2⟩
    · rw [List.map_append, ← List.cons_append, List.nodup_append]
      refine ⟨hnd, by simp, fun a ha x hx => ?_⟩
      simp at hx
      have hal : a < w1.heap.size := by
        rcases List.mem_cons.1 ha with rfl | ha
        · exact World.ownsMap.lt hl
        · obtain ⟨r1, hr1, rfl⟩ := List.mem_map.1 ha
          exact hr.lt.2 r1 hr1
      omega
    · exact (h3.mono (T := fun i => S2 i ∧ i < w1.heap.size) (fun i a c => ⟨c, a⟩)).same (fun i hi _ => old i hi.2 (h5 i hi.1).2 (fun x e h => (h4 x (HNB.out x e).1).2.2 (h ▸ hi.1))) |>.monoN (by omega)
    · intro i hi
      rcases hi with hi | hi
      · exact ⟨.inl (h4 i hi.1).1, (h4 i hi.1).2.1, fun h => (h4 i hi.1).2.2 h.1⟩
      · exact ⟨.inr ⟨by omega, by omega⟩, by omega, fun h => by omega⟩
    · intro i hi; exact ⟨.inl (h5 i hi.1).1, (h5 i hi.1).2⟩
    · intro i hi
      rcases hi with hi | hi
      · have := H.out.lt i hi; omega
      · exact hi.2
  · rw [hii]
    have hd : decide (0 ≤ (k : Int)) = true := decide_eq_true (by omega)
    have HNO : Hid (snaA d.now id = d.now) := Lib.hid (by unfold snaA; rw [if_neg (fun h => by rw [hfi] at h; simp at h)])
    clear hb1 hfi hii
    go_wp2_with fail
    go_ret
    first | exact ⟨_, rfl, ActX.below H.out HB1.out HNO.out⟩ | exact ⟨⟨_, rfl⟩, ActX.below H.out HB1.out HNO.out⟩

set_option maxRecDepth 20000 in
theorem destroy_x {w : World} {S : Nat → Prop} {b : Nat} {d : ModD} {N : Nat} (h : ModAt w S b d N) (id : Int) :
    Calls Try.prog 28 #[.pointer (some ⟨b, 0, none⟩), .int .i64 id] w fun e w' => ∃ er, e = .returned (.int .i64 er) ∧ ActX w w' S b d N (desA d.now id) := by
  have H := Lib.hid h
  have HF := Lib.hid (found_x h id)
  clear h
  go_enter Try.func28, Try.ntmps28
  go_wp2_with fail
  refine HF.out.mono ?_
  rintro e w1 ⟨⟨i, hfi, rfl⟩ | ⟨hfi, rfl⟩, hb1⟩
  · have hi := ids_get hfi
    have HRO : Hid (desA d.now id = ⟨d.now.live, d.now.snaps.eraseIdx i⟩) := Lib.hid (by unfold desA; rw [hfi])
    clear hfi
    have HB1 := Lib.hid hb1
    have h := H.out.below hb1
    obtain ⟨m1, A1, n1, c1, m2, A2, n2, c2, S1, S2, h1, h2, h3, h4, h5, h6, h7⟩ := h
    obtain ⟨rs, hl, hr, hm1, hrs, hrb, hnd⟩ := h2
    obtain ⟨A1', c1', he⟩ := hr.form
    cases he
    have hir : i < rs.length := by rw [hr.len]; exact hi
    obtain ⟨g1, rfl⟩ : ∃ gv, A1 = some ⟨gv, 0, none⟩ := by
      rcases hr.row.2 with ⟨_, h0⟩ | ⟨b, cap, cur, he, _⟩
      · omega
      · cases he; exact ⟨b, rfl⟩
    have k1 := h1.at_ (i := 1) rfl
    have few := hr.few
    have hdel := del_any (j := i + 1) hr.row rfl hir few rfl
    rw [Int.natCast_add, Int.natCast_one] at hdel
    have HD := Lib.hid hdel
    have HX1 := Lib.hid h1
    have HALL := Lib.hid (And.intro h3 (And.intro h4 (And.intro h5 (And.intro h6 h7))))
    have HR := Lib.hid (And.intro hl (And.intro hr (And.intro hm1 (And.intro hrs (And.intro hrb hnd)))))
    have HIR := Lib.hid hir
    clear hb1 h1 hl hr hm1 hrs hrb hnd hi h3 h4 h5 h6 h7 hdel
    go_wp2_with fail
    refine HD.out.mono ?_
    rintro e w2 ⟨rfl, hrow2, hg2, hs2⟩
    have hgb : g1 ≠ b := by
      obtain ⟨_, _, _, _, hrb, _⟩ := HR.out
      obtain ⟨_, h4, _⟩ := HALL.out
      exact (h4 g1 (hrb g1 rfl)).2.1
    have hk2 : Blk w2 b 63 _ := (hg2.block b HX1.out.lt (fun e => hgb (by injection e with e; exact e.symm))).trans HX1.out
    have z1 := hk2.fr 1
    have c1x := hk2.at_ (i := 1) rfl
    have HROW2 := Lib.hid hrow2
    have HG2 := Lib.hid hg2
    have HS2 := Lib.hid hs2
    have HK2 := Lib.hid hk2
    clear hrow2 hg2 hs2 hk2 k1
    go_wp2_with fail
    obtain ⟨w3, hw3⟩ : ∃ x, x = w2.setCell ⟨b, 1, none⟩ (.slice (some ⟨g1, 0, none⟩) (rs.length - 1) c1) := ⟨_, rfl⟩
    have hk3 : Blk w3 b 63 #[.map (some m1), .slice (some ⟨g1, 0, none⟩) (rs.length - 1) c1, .map (some m2), .slice A2 n2 c2] := by rw [hw3]; exact HK2.out.put 1 _
    have g3 : ∀ i, i ≠ b → w3.heap[i]? = w2.heap[i]? := fun i hi => by rw [hw3]; exact Below.heap_setCell _ ⟨b, 1, none⟩ _ i hi
    have hs3 : w3.heap.size = w2.heap.size := by rw [hw3]; simp [World.setCell]
    obtain ⟨h3, h4, h5, h6, h7⟩ := HALL.out
    obtain ⟨hl, hr, hm1, hrs, hrb, hnd⟩ := HR.out
    have hSg := hrb g1 rfl
    have ho : Only S w w3 := by
      rw [hw3]
      exact (((Only.of_below (S := S) HB1.out)).trans (Only.of_grown (S := S) HG2.out (h4 g1 hSg).1) (fun i hi => .inl hi)).set (.inl H.out.has) _
    rw [← hw3]
    go_ret
    have q1 := HB1.out.size
    have q2 := HS2.out
    have q3 := HX1.out.lt
    have hir := HIR.out
    have old : ∀ i, i < w1.heap.size → i ≠ b → i ≠ g1 → w3.heap[i]? = w1.heap[i]? := fun i hi h1 h2 => (g3 i h1).trans (HG2.out.block i hi (fun e => h2 (by injection e)))
    have hgm : ∀ i D0 N0, MapT w1 i N0 D0 → i ≠ g1 := fun i D0 N0 hm e => map_row hm hr.row (by rw [e]; rfl)
    have hsub : ∀ r, r ∈ rs.eraseIdx i → r ∈ rs := fun r hr' => (List.eraseIdx_sublist rs i).mem hr'
    rw [HRO.out]
    refine ⟨_, rfl, ⟨⟨m1, _, _, _, m2, A2, n2, c2, fun i => S1 i ∧ i < w1.heap.size, fun i => S2 i ∧ i < w1.heap.size, hk3, ⟨rs.eraseIdx i, ?_, ?_, ⟨hm1, World.ownsMap.lt hl⟩, fun r hr' => ⟨hrs r (hsub r hr'), hr.lt.2 r (hsub r hr')⟩, ?_, ?_⟩, ?_, ?_, ?_, .inl H.out.has, ?_⟩, ho⟩⟩
    · exact World.ownsMap.mono (MapT.same hl (old _ (World.ownsMap.lt hl) (h4 _ hm1).2.1 (hgm _ _ _ hl))) (by omega)
    · have hlen2 : (rs.eraseIdx i).length = rs.length - 1 := by rw [List.length_eraseIdx, if_pos hir]
      refine ⟨?_, by rw [hlen2, List.length_eraseIdx, if_pos (by rw [← hr.len]; exact hir), hr.len], ?_, ?_, by rw [hlen2]; have := hr.few; omega⟩
      · rw [hlen2]
        exact ownsRow_same HROW2.out (fun x e => by cases e; exact g3 g1 (h4 g1 hSg).2.1)
      · intro j r1 p1 e1 e2
        rw [List.getElem?_eraseIdx] at e1 e2
        split at e1
        · rename_i hji; rw [if_pos hji] at e2; exact hr.ids _ _ _ e1 e2
        · rename_i hji; rw [if_neg hji] at e2; exact hr.ids _ _ _ e1 e2
      · intro j r1 p1 e1 e2
        rw [List.getElem?_eraseIdx] at e1 e2
        have hm : MapT w1 r1.2 N p1.2 := by
          split at e1
          · rename_i hji; rw [if_pos hji] at e2; exact hr.maps _ _ _ e1 e2
          · rename_i hji; rw [if_neg hji] at e2; exact hr.maps _ _ _ e1 e2
        have hmem : r1 ∈ rs := hsub r1 (List.mem_of_getElem? (by rw [List.getElem?_eraseIdx]; exact e1))
        exact World.ownsMap.mono (MapT.same hm (old _ (World.ownsMap.lt hm) (h4 _ (hrs r1 hmem)).2.1 (hgm _ _ _ hm))) (by omega)
    · intro x e
      have hx : g1 = x := by simpa [Value.ownBlock] using e
      rw [← hx]
      exact ⟨hSg, hr.lt.1 g1 rfl⟩
    · rw [List.nodup_cons] at hnd ⊢
      refine ⟨fun hmem => ?_, hnd.2.sublist ((List.eraseIdx_sublist rs i).map _)⟩
      exact hnd.1 (((List.eraseIdx_sublist rs i).map Prod.snd).mem hmem)
    · exact (h3.mono (T := fun i => S2 i ∧ i < w1.heap.size) (fun i a c => ⟨c, a⟩)).same (fun i hi _ => old i hi.2 (h5 i hi.1).2 (fun e => (h4 g1 hSg).2.2 (e ▸ hi.1))) |>.monoN (by omega)
    · intro i hi
      exact ⟨.inl (h4 i hi.1).1, (h4 i hi.1).2.1, fun h => (h4 i hi.1).2.2 h.1⟩
    · intro i hi; exact ⟨.inl (h5 i hi.1).1, (h5 i hi.1).2⟩
    · intro i hi
      rcases hi with hi | hi
      · have := H.out.lt i hi; omega
      · exact hi.2
  · have HB1 := Lib.hid hb1
    have HNO : Hid (desA d.now id = d.now) := Lib.hid (by unfold desA; rw [hfi])
    clear hb1 hfi
    go_wp2_with fail
    go_ret
    first | exact ⟨_, rfl, ActX.below H.out HB1.out HNO.out⟩ | exact ⟨⟨_, rfl⟩, ActX.below H.out HB1.out HNO.out⟩

theorem ActX.after {w w1 w' : World} {S : Nat → Prop} {b : Nat} {d : ModD} {N : Nat} {a' : AllA} (hb : Below w.heap.size w w1) (h : ActX w1 w' S b d N a') : ActX w w' S b d N a' := by
  obtain ⟨h1, h2⟩ := h
  refine ⟨h1.mono (fun i hi => ?_) (fun i hi => ?_), (Only.of_below hb).trans h2 (fun i hi => .inl hi)⟩
  · rcases hi with hi | hi
    · exact .inl hi
    · exact .inr ⟨Nat.le_trans hb.size hi.1, hi.2⟩
  · rcases hi with hi | hi
    · exact h1.lt i (.inl hi)
    · exact hi.2
def remA (a : AllA) (id : Int) : AllA := if hasE a.live id = 0 then ⟨a.live.del (.int .i64 id), a.snaps⟩ else a
def wriA (a : AllA) (id off : Int) (s : List UInt8) : AllA := if wrE id off s.length = 0 then ⟨a.live.put (.int .i64 id) (.lit (.string (wrT (txt a.live id) off s))), a.snaps⟩ else a
theorem wrD_now (d : ModD) (id off : Int) (s : List UInt8) : wrD d id off s = ⟨wriA d.now id off s, d.kept⟩ := by
  unfold wrD wriA; split <;> rfl
theorem remD_now (d : ModD) (id : Int) : remD d id = ⟨remA d.now id, d.kept⟩ := by
  unfold remD remA; split <;> rfl
/-- What an act comes to. -/
def actA (a : AllA) (x : MAct) : AllA :=
  if x.do_ % 8 = 3 then truA a x.id x.off else if x.do_ % 8 = 4 then remA a x.id else if x.do_ % 8 = 5 then snaA a x.id else if x.do_ % 8 = 6 then desA a x.id else if x.do_ % 8 = 7 then rolA a x.id
  else wriA a x.id x.off (List.replicate (cntA x.n) x.fill)

set_option maxRecDepth 20000 in
theorem do_x {w : World} {S : Nat → Prop} {b : Nat} {d : ModD} {N : Nat} (h : ModAt w S b d N) (hN : N ≤ 1000000) (a : MAct) (ha : a.Ok) :
    Calls Try.prog 10 #[.pointer (some ⟨b, 0, none⟩), .agg #[.int .u8 a.do_, .int .i64 a.id, .int .i64 a.off, .int .i64 a.n, .int .u8 a.fill.toNat]] w fun e w' => ∃ er, e = .returned (.int .i64 er) ∧ ActX w w' S b d N (actA d.now a) := by
  obtain ⟨dn, id, off, n, fill⟩ := a
  obtain ⟨q, hq8, hq⟩ : ∃ q : Nat, q < 8 ∧ (dn : Int).tmod 8 = (q : Int) ∧ dn % 8 = q := ⟨dn % 8, Nat.mod_lt _ (by omega), mod_eq 8 rfl, rfl⟩
  obtain ⟨hq, hqn⟩ := hq
  have HQN := Lib.hid hqn
  clear hqn
  have HA := Lib.hid ha
  simp only at ⊢
  have hcnt : ∀ W, Calls Try.prog 31 #[.agg #[.int .u8 dn, .int .i64 id, .int .i64 off, .int .i64 n, .int .u8 fill.toNat]] W fun e w' => e = .returned (.int .i64 (cntA n)) ∧ Below W.heap.size W w' := fun W => count_any _ _ _ _ _ n rfl W
  have hcl := cntA_le n
  generalize hcn : cntA n = c at hcnt hcl
  have hfill : ∀ W, Calls Try.prog 30 #[.int .u8 fill.toNat, .int .i64 c] W fun e w' => e = .returned (str (List.replicate c fill)) ∧ Below W.heap.size W w' := fun W => fill_any fill c hcl W
  have hsl : (List.replicate c fill).length ≤ 600 := by rw [List.length_replicate]; exact hcl
  obtain ⟨s, hfl⟩ : ∃ s, List.replicate c fill = s := ⟨_, rfl⟩
  rw [hfl] at hfill hsl
  have HFL : Hid (List.replicate (cntA n) fill = s) := Lib.hid (by rw [hcn]; exact hfl)
  have HC := Lib.hid hcnt
  have HF := Lib.hid hfill
  have HSL := Lib.hid hsl
  clear hcnt hfill hcn hfl hcl ha hsl
  have HQ := Lib.hid hq
  clear hq
  obtain ⟨w1, hw1⟩ : ∃ x, x = w.alloc (.cells #[.int .u8 dn, .int .i64 id, .int .i64 off, .int .i64 n, .int .u8 fill.toNat] 37) := ⟨_, rfl⟩
  have hb1 : Below w.heap.size w w1 := by rw [hw1]; exact keep_alloc (Below.refl _ _) _
  have hx1 : Blk w1 w.heap.size 37 #[.int .u8 dn, .int .i64 id, .int .i64 off, .int .i64 n, .int .u8 fill.toNat] := by rw [hw1]; exact Blk.new _ _ _
  have hm1 := h.below hb1
  have hns : ¬ S w.heap.size := fun hS => Nat.lt_irrefl _ (h.lt _ hS)
  have HB1 := Lib.hid hb1
  have HX1 := Lib.hid hx1
  have HM1 := Lib.hid hm1
  have HNS := Lib.hid hns
  have HW1 := Lib.hid hw1
  clear hb1 hx1 hm1 h hns hw1
  go_enter Try.func10, Try.ntmps10
  have hcase : q = 3 ∨ q = 4 ∨ q = 5 ∨ q = 6 ∨ q = 7 ∨ q = 0 ∨ q = 1 ∨ q = 2 := by omega
  clear hq8
  rcases hcase with rfl | rfl | rfl | rfl | rfl | hcase
  · have hq := HQ.out
    go_wp2_with fail
    rw [← HW1.out]
    refine (truncate_x HM1.out hN _ _).mono ?_
    rintro e w2 ⟨er, rfl, h2⟩
    have H2 := Lib.hid h2
    clear h2
    go_wp2_with fail
    go_ret
    exact ⟨_, rfl, by unfold actA; simp only [HQN.out]; exact H2.out.after HB1.out⟩
  · have hq := HQ.out
    go_wp2_with fail
    rw [← HW1.out]
    refine (remove_any HM1.out _).mono ?_
    rintro e w2 ⟨rfl, h2, h3⟩
    have H2 : Hid (ActX w1 w2 S b d N (remA d.now id)) := Lib.hid ⟨by rw [← remD_now]; exact h2, h3⟩
    clear h2 h3
    go_wp2_with fail
    go_ret
    exact ⟨_, rfl, by unfold actA; simp only [HQN.out]; exact H2.out.after HB1.out⟩
  · have hq := HQ.out
    go_wp2_with fail
    rw [← HW1.out]
    refine (snap_x HM1.out _).mono ?_
    rintro e w2 ⟨er, rfl, h2⟩
    have H2 := Lib.hid h2
    clear h2
    go_wp2_with fail
    go_ret
    exact ⟨_, rfl, by unfold actA; simp only [HQN.out]; exact H2.out.after HB1.out⟩
  · have hq := HQ.out
    go_wp2_with fail
    rw [← HW1.out]
    refine (destroy_x HM1.out _).mono ?_
    rintro e w2 ⟨er, rfl, h2⟩
    have H2 := Lib.hid h2
    clear h2
    go_wp2_with fail
    go_ret
    exact ⟨_, rfl, by unfold actA; simp only [HQN.out]; exact H2.out.after HB1.out⟩
  · have hq := HQ.out
    go_wp2_with fail
    rw [← HW1.out]
    refine (rollback_x HM1.out _).mono ?_
    rintro e w2 ⟨er, rfl, h2⟩
    have H2 := Lib.hid h2
    clear h2
    go_wp2_with fail
    go_ret
    exact ⟨_, rfl, by unfold actA; simp only [HQN.out]; exact H2.out.after HB1.out⟩
  · have hq := HQ.out
    have d3 : ((q : Int) == 3) = false := by rw [beq_eq_false_iff_ne]; omega
    have d4 : ((q : Int) == 4) = false := by rw [beq_eq_false_iff_ne]; omega
    have d5 : ((q : Int) == 5) = false := by rw [beq_eq_false_iff_ne]; omega
    have d6 : ((q : Int) == 6) = false := by rw [beq_eq_false_iff_ne]; omega
    have d7 : ((q : Int) == 7) = false := by rw [beq_eq_false_iff_ne]; omega
    have HC3 : Hid (q = 0 ∨ q = 1 ∨ q = 2) := Lib.hid hcase
    clear hcase
    repeat' (first
      | go_values
      | go_skip
      | go_guarded
      | ((fail_if_success (with_reducible refine drawn_mark ?_))
         first
           | go_step
           | go_upon
           | go_back
           | (simp only [Int.not_lt, Int.not_le] at *; go_simp)
           | (go_values <;> (try go_simp))
           | (go_ite <;> go_prune <;> (try go_simp))
           | (split <;> (first | (rename_i hx; exact (hx _ rfl).elim) | go_prune))))
    rw [← HW1.out]
    obtain ⟨C, hC⟩ : ∃ C : World → Prop, C = fun W => W.heap[w.heap.size]? = w1.heap[w.heap.size]? := ⟨_, rfl⟩
    have f0 : ∀ W, C W → W.cell? ⟨w.heap.size, 0, none⟩ = some (.int .u8 dn) := fun W hW => by rw [hC] at hW; exact (show Blk W _ _ _ from hW.trans HX1.out).at_ rfl
    have f1 : ∀ W, C W → W.cell? ⟨w.heap.size, 1, none⟩ = some (.int .i64 id) := fun W hW => by rw [hC] at hW; exact (show Blk W _ _ _ from hW.trans HX1.out).at_ rfl
    have f2 : ∀ W, C W → W.cell? ⟨w.heap.size, 2, none⟩ = some (.int .i64 off) := fun W hW => by rw [hC] at hW; exact (show Blk W _ _ _ from hW.trans HX1.out).at_ rfl
    have f3 : ∀ W, C W → W.cell? ⟨w.heap.size, 3, none⟩ = some (.int .i64 n) := fun W hW => by rw [hC] at hW; exact (show Blk W _ _ _ from hW.trans HX1.out).at_ rfl
    have f4 : ∀ W, C W → W.cell? ⟨w.heap.size, 4, none⟩ = some (.int .u8 fill.toNat) := fun W hW => by rw [hC] at hW; exact (show Blk W _ _ _ from hW.trans HX1.out).at_ rfl
    have hSw : C w1.drew := by rw [hC]; rfl
    have hC2 : ∀ W, W.heap[w.heap.size]? = w1.heap[w.heap.size]? → C W := fun W a => by rw [hC]; exact a
    have HCC := Lib.hid hC2
    clear hC hC2 d3 d4 d5 d6 d7 hq
    refine wp_region_eff C [8, 9] 10 (by kernel_rfl) (by kernel_rfl) (by kernel_rfl) hSw ?_
    simp only [List.take_succ_cons, List.take_zero, List.drop_succ_cons, List.drop_zero]
    refine wpLexE_take 8 (by kernel_rfl) (by kernel_rfl) ?_
    simp only [List.take_succ_cons, List.take_zero, List.drop_succ_cons, List.drop_zero]
    repeat (first
      | go_big_quiet_skip
      | (go_big_quiet_want
         go_big_quiet_op
         first
           | go_big_quiet_on
           | (apply Exists.intro
              refine ⟨fun W hW => ?_, ?_⟩
              · first
                  | exact rfl
                  | exact ⟨rfl, rfl⟩
                  | (have e0 := f0 W hW; have e1 := f1 W hW; have e2 := f2 W hW; have e3 := f3 W hW; have e4 := f4 W hW; simp only [e0, e1, e2, e3, e4, Result.andThen_ok]; done)
                  | (have e0 := f0 W hW; have e1 := f1 W hW; have e2 := f2 W hW; have e3 := f3 W hW; have e4 := f4 W hW; simp only [e0, e1, e2, e3, e4, Result.andThen_ok]; first | exact ⟨trivial, rfl⟩ | exact rfl | exact ⟨rfl, rfl⟩)
                  | (skip)
              go_big_quiet_on)))
    refine wpQuiet_nil ?_
    show wpLexE _ _ _ _ _ _ _ _ _
    refine wpLexE_eff (by kernel_rfl) rfl ?_
    go_wp2_with fail
    refine (HC.out _).mono ?_
    rintro e w2 ⟨rfl, hb2⟩
    have HB2 : Hid (Below w1.heap.size w1 w2) := Lib.hid ⟨hb2.os, hb2.tape, hb2.output, hb2.size, fun i hi => hb2.block i hi⟩
    have hS2 : C w2 := HCC.out _ (HB2.out.block _ HX1.out.lt)
    clear hb2
    go_wp2_with fail
    refine ⟨rfl, hS2, ?_⟩
    refine wpLexE_eff (by kernel_rfl) rfl ?_
    go_wp2_with fail
    refine (HF.out _).mono ?_
    rintro e w3 ⟨rfl, hb3⟩
    have HB3 : Hid (Below w1.heap.size w1 w3) := Lib.hid (keep_below hb3 HB2.out)
    have hS3 : C w3 := HCC.out _ (HB3.out.block _ HX1.out.lt)
    clear hb3
    go_wp2_with fail
    refine ⟨rfl, hS3, ?_⟩
    show wpList _ _ _ _ _ _
    clear f0 f1 f2 f3 f4 hSw hS2 hS3
    go_wp2_with fail
    refine (write_any (HM1.out.below HB3.out) hN id off s (by have := HSL.out; omega) (by have := HA.out.o; exact this.1) (by have := HA.out.o; exact this.2)).mono ?_
    rintro e w4 ⟨rfl, h4, o4⟩
    have H4 : Hid (ActX w3 w4 S b d N (wriA d.now id off s)) := Lib.hid ⟨by rw [← wrD_now]; exact h4, o4⟩
    clear h4 o4
    go_wp2_with fail
    go_ret
    exact ⟨_, rfl, by unfold actA; simp only [HQN.out]; rw [if_neg (by have := HC3.out; omega), if_neg (by have := HC3.out; omega), if_neg (by have := HC3.out; omega), if_neg (by have := HC3.out; omega), if_neg (by have := HC3.out; omega), HFL.out]; exact (H4.out.after HB3.out).after HB1.out⟩
end Go.Proofs.Ytckicdbiiepngaa
