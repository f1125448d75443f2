/-
  Package model: copied.
-/
import Derived.Test.YtckicdbiiepngaaMod
namespace Go.Proofs.Ytckicdbiiepngaa
set_option linter.unusedVariables false
set_option linter.unusedSimpArgs false
open Go.RowKit Go.Maps Go.Lib Go.Shelf

structure AllA where
  live : DT
  snaps : List (Int × DT)
def rowC (rs : List (Int × Nat)) : List Value := rs.flatMap fun r => [.int .i64 r.1, .map (some r.2)]
theorem rowC_snoc (rs : List (Int × Nat)) (r : Int × Nat) : rowC (rs ++ [r]) = rowC rs ++ [.int .i64 r.1, .map (some r.2)] := by simp [rowC]
theorem rowC_len : ∀ rs : List (Int × Nat), (rowC rs).length = rs.length * 2
  | [] => rfl
  | r :: rs => by
    have := rowC_len rs
    simp only [rowC, List.flatMap_cons, List.length_append, List.length_cons, List.length_nil] at *
    omega
theorem rowC_at : ∀ (rs : List (Int × Nat)) (i : Nat) (r : Int × Nat), rs[i]? = some r → (rowC rs)[i * 2]? = some (.int .i64 r.1) ∧ (rowC rs)[i * 2 + 1]? = some (.map (some r.2))
  | [], i, r, h => by simp at h
  | q :: rs, 0, r, h => by simp at h; subst h; simp [rowC]
  | q :: rs, i + 1, r, h => by
    have h2 := rowC_at rs i r (by simpa using h)
    have e1 : (i + 1) * 2 = i * 2 + 2 := by omega
    rw [e1]
    simpa [rowC] using h2
/-- A row of snapshots. -/
structure RowIn (w : World) (sv : Value) (rs : List (Int × Nat)) (ss : List (Int × DT)) (N : Nat) : Prop where
  row : w.ownsRow 0 75 2 sv rs.length (rowC rs)
  len : rs.length = ss.length
  ids : ∀ (i : Nat) r p, rs[i]? = some r → ss[i]? = some p → r.1 = p.1
  maps : ∀ (i : Nat) r p, rs[i]? = some r → ss[i]? = some p → MapT w r.2 N p.2
  few : rs.length ≤ 4
theorem RowIn.same {w w' : World} {sv : Value} {rs : List (Int × Nat)} {ss : List (Int × DT)} {N : Nat} (h : RowIn w sv rs ss N) (h1 : ∀ b, sv.ownBlock = some b → w'.heap[b]? = w.heap[b]?) (h2 : ∀ r ∈ rs, w'.heap[r.2]? = w.heap[r.2]?) : RowIn w' sv rs ss N :=
  ⟨ownsRow_same h.row h1, h.len, h.ids, fun i r p hr hp => (h.maps i r p hr hp).same (h2 r (List.mem_of_getElem? hr)), h.few⟩
theorem RowIn.lt {w : World} {sv : Value} {rs : List (Int × Nat)} {ss : List (Int × DT)} {N : Nat} (h : RowIn w sv rs ss N) : (∀ b, sv.ownBlock = some b → b < w.heap.size) ∧ ∀ r ∈ rs, r.2 < w.heap.size := by
  refine ⟨fun b hb => (h.row.lt b hb).2, fun r hr => ?_⟩
  obtain ⟨i, hi⟩ := List.getElem?_of_mem hr
  have hlt := (List.getElem?_eq_some_iff.1 hi).1
  exact World.ownsMap.lt (h.maps i r _ hi (List.getElem?_eq_getElem (by rw [← h.len]; exact hlt)))
theorem RowIn.below {w w' : World} {sv : Value} {rs : List (Int × Nat)} {ss : List (Int × DT)} {N : Nat} (h : RowIn w sv rs ss N) (hb : Below w.heap.size w w') : RowIn w' sv rs ss N :=
  h.same (fun b e => hb.block b (h.lt.1 b e)) (fun r hr => hb.block _ (h.lt.2 r hr))
theorem rowIn_nil (w : World) (N : Nat) : RowIn w (.slice none 0 0) [] [] N := ⟨World.ownsRow_nil _ _ _ _, rfl, fun i r p h => by simp at h, fun i r p h => by simp at h, Nat.zero_le _⟩

theorem Try.infoSn : (Try.prog.info? 75).map (fun i => (i.zero, i.size, i.bytes)) = some (some (.agg #[.int .i64 0, .map none]), 2, 16) := by kernel_rfl

set_option maxRecDepth 20000 in
theorem copied_core {w : World} {ps : Option Nat} {D D' : DT} {sv : Value} {rs : List (Int × Nat)} {ss : List (Int × DT)} {N : Nat} (hs : SrcOf Try.prog 3 RT w ps D) (hD : mergeD (.map []) D = D') (hsz : Maps.size D ≤ N) (hN : N ≤ 1000000) (hr : RowIn w sv rs ss N) :
    Calls Try.prog 25 #[.agg #[.map ps, sv]] w fun e w' => ∃ ml sv' rs', e = .returned (.agg #[.map (some ml), sv']) ∧ MapT w' ml N D' ∧ RowIn w' sv' rs' ss N ∧ Below w.heap.size w w' ∧
      w.heap.size ≤ ml ∧ (∀ r ∈ rs', w.heap.size ≤ r.2) ∧ (∀ b, sv'.ownBlock = some b → w.heap.size ≤ b) ∧ (ml :: rs'.map Prod.snd).Nodup := by
  obtain ⟨i0, hi, hz0, hz1, hz2⟩ := info_parts Try.infoSn
  have hmm := @run_makeMap Try.prog
  have HR := Lib.hid hr
  have HS := Lib.hid hs
  have hform : ∃ A c, sv = .slice A rs.length c := by
    rcases hr.row.2 with ⟨rfl, h0⟩ | ⟨b, cap, cur, rfl, _⟩
    · exact ⟨none, 0, by rw [h0]⟩
    · exact ⟨_, _, rfl⟩
  obtain ⟨A, c, rfl⟩ := hform
  have few := hr.few
  clear hr hs
  go_enter Try.func25, Try.ntmps25
  go_wp2_with fail
  obtain ⟨w4, hw4⟩ : ∃ x, x = ((((w.alloc (.cells #[.map ps, .slice A rs.length c] 60)).alloc (.cells #[.map none, .slice none 0 0] 60)).alloc (.map #[] 0)).alloc (.cells #[.map (some (w.heap.size + 1 + 1)), .slice none 0 0] 60)) := ⟨_, rfl⟩
  have hb4 : Below w.heap.size w w4 := by rw [hw4]; exact keep_alloc (keep_alloc (keep_alloc (keep_alloc (Below.refl _ _) _) _) _) _
  have hs4 : w4.heap.size = w.heap.size + 4 := by rw [hw4]; simp
  have k0 : Blk w4 w.heap.size 60 #[.map ps, .slice A rs.length c] := by
    rw [hw4]; unfold Blk
    rw [Below.heap_alloc _ _ _ (by simp <;> omega), Below.heap_alloc _ _ _ (by simp <;> omega), Below.heap_alloc _ _ _ (by simp)]
    exact heap_alloc_new w _
  have k1 : Blk w4 (w.heap.size + 1) 60 #[.map none, .slice none 0 0] := by
    rw [hw4]; unfold Blk
    rw [Below.heap_alloc _ _ _ (by simp <;> omega), Below.heap_alloc _ _ _ (by simp)]
    have := heap_alloc_new (w.alloc (.cells #[.map ps, .slice A rs.length c] 60)) (.cells #[.map none, .slice none 0 0] 60)
    simpa using this
  have k3 : Blk w4 (w.heap.size + 1 + 1 + 1) 60 #[.map (some (w.heap.size + 1 + 1)), .slice none 0 0] := by
    rw [hw4]; unfold Blk
    have := heap_alloc_new (((w.alloc (.cells #[.map ps, .slice A rs.length c] 60)).alloc (.cells #[.map none, .slice none 0 0] 60)).alloc (.map #[] 0)) (.cells #[.map (some (w.heap.size + 1 + 1)), .slice none 0 0] 60)
    simpa using this
  have k2 : MapT w4 (w.heap.size + 1 + 1) 0 (.map []) := by
    have := World.ownsMap_made ((w.alloc (.cells #[.map ps, .slice A rs.length c] 60)).alloc (.cells #[.map none, .slice none 0 0] 60)) Try.prog 3 RT
    have e : ((w.alloc (.cells #[.map ps, .slice A rs.length c] 60)).alloc (.cells #[.map none, .slice none 0 0] 60)).heap.size = w.heap.size + 1 + 1 := by simp
    rw [e] at this
    exact MapT.same this (by rw [hw4]; exact Below.heap_alloc _ _ _ (by simp))
  rw [← hw4]
  have HB4 := Lib.hid hb4
  have HS4 := Lib.hid hs4
  have HK0 := Lib.hid k0
  have HK1 := Lib.hid k1
  have HK3 := Lib.hid k3
  have hsrc : SrcOf Try.prog 3 RT w4 ps D := by
    rcases HS.out with ⟨rfl, rfl⟩ | ⟨b, n, rfl, ho⟩
    · exact .inl ⟨rfl, rfl⟩
    · exact .inr ⟨b, n, rfl, MapT.same ho (hb4.block b (World.ownsMap.lt ho))⟩
  have hne : ps ≠ some (w.heap.size + 1 + 1) := by
    rcases HS.out with ⟨rfl, rfl⟩ | ⟨b, n, rfl, ho⟩
    · intro h; cases h
    · intro h; cases h; have := World.ownsMap.lt ho; omega
  refine (copy_any k2 hsrc hne hsz hN).mono ?_
  clear hw4 hb4 hs4 k0 k1 k2 k3 hsrc hne
  rintro e w5 ⟨rfl, hm5, hg5⟩
  have hs5 := hg5.size
  have hb5 : Below w.heap.size w w5 := HB4.out.grown hg5 (by have := HS4.out; omega) (fun k hk => by cases hk; omega)
  have k0 : Blk w5 w.heap.size 60 #[.map ps, .slice A rs.length c] := (hg5.block _ (by have := HS4.out; omega) (fun e => by injection e with e; omega)).trans HK0.out
  have k1 : Blk w5 (w.heap.size + 1) 60 #[.map none, .slice none 0 0] := (hg5.block _ (by have := HS4.out; omega) (fun e => by injection e with e; omega)).trans HK1.out
  have k3 : Blk w5 (w.heap.size + 1 + 1 + 1) 60 #[.map (some (w.heap.size + 1 + 1)), .slice none 0 0] := (hg5.block _ (by have := HS4.out; omega) (fun e => by injection e with e; omega)).trans HK3.out
  have c01 : w5.cell? ⟨w.heap.size, 1, none⟩ = some (.slice A rs.length c) := k0.at_ rfl
  rw [hD] at hm5
  have HM5 := Lib.hid hm5
  have HB5 := Lib.hid hb5
  have HL0 := Lib.hid k0
  have HL1 := Lib.hid k1
  have HL3 := Lib.hid k3
  have HSZ5 : Hid (w.heap.size + 4 ≤ w5.heap.size) := Lib.hid (by have := HS4.out; omega)
  clear hm5 hg5 hs5 hb5 k0 k1 k3
  go_wp2_with fail
  go_loopw [5, 16] (fun _ t wr => ∃ (k : Nat) (sv' : Value) (rs' : List (Int × Nat)), k ≤ rs.length ∧ t = .int .i64 k ∧ Below w.heap.size w wr ∧ Blk wr (w.heap.size + 1) 60 #[.map none, .slice none 0 0] ∧
      Blk wr (w.heap.size + 1 + 1 + 1) 60 #[.map (some (w.heap.size + 1 + 1)), sv'] ∧ MapT wr (w.heap.size + 1 + 1) N D' ∧ RowIn wr sv' rs' (ss.take k) N ∧ (∀ r ∈ rs', w.heap.size + 4 ≤ r.2) ∧ (∀ b, sv'.ownBlock = some b → w.heap.size + 4 ≤ b) ∧
      (rs'.map Prod.snd).Nodup ∧ w.heap.size + 4 ≤ wr.heap.size) (fun _ t _ => rs.length - (intOf t).toNat)
  case atStart =>
    exact ⟨0, _, [], Nat.zero_le _, rfl, HB5.out, HL1.out, HL3.out, HM5.out, rowIn_nil _ _, (fun r h => by simp at h), (fun b h => by simp [Value.ownBlock] at h), by simp, HSZ5.out⟩
  case round =>
    obtain ⟨k, sv', rs', hk, rfl, hbw, hl1, hl3, hm, hrow, hnew, hnew2, hnd, hsz4⟩ := hrel
    have HBW := Lib.hid hbw
    have HL1 := Lib.hid hl1
    have HL3 := Lib.hid hl3
    have HM := Lib.hid hm
    have HROW := Lib.hid hrow
    have HNEW := Lib.hid hnew
    have HNEW2 := Lib.hid hnew2
    have HND := Lib.hid hnd
    have HSZ4 := Lib.hid hsz4
    clear hbw hl1 hl3 hm hrow hnew hnew2 hnd hsz4
    by_cases hlt : k < rs.length
    · obtain ⟨r, hr⟩ : ∃ r, rs[k]? = some r := ⟨_, List.getElem?_eq_getElem hlt⟩
      obtain ⟨q, hq⟩ : ∃ q, ss[k]? = some q := ⟨_, List.getElem?_eq_getElem (by rw [← HR.out.len]; exact hlt)⟩
      have hform : ∃ gv, A = some ⟨gv, 0, none⟩ := by
        rcases HR.out.row.2 with ⟨_, h0⟩ | ⟨b, cap, cur, he, _⟩
        · omega
        · cases he; exact ⟨b, rfl⟩
      obtain ⟨gv, rfl⟩ := hform
      have hrw := HR.out.below HBW.out
      have hcells := hrw.row.cells (g := gv) rfl
      have hat := rowC_at rs k r hr
      have c10 := hcells _ _ hat.1
      have c11 := hcells _ _ hat.2
      rw [Addr.add_mid, Nat.zero_add] at c10 c11
      have hmap := hrw.maps k r q hr hq
      have hid := hrw.ids k r q hr hq
      have HMAP := Lib.hid hmap
      have HID := Lib.hid hid
      have HQ := Lib.hid hq
      have HLT := Lib.hid hlt
      have hdc : decide (k < rs.length) = true := decide_eq_true hlt
      clear hrw hcells hat hmap hid hr hq
      repeat' (first
        | go_values
        | go_skip
        | go_guarded
        | ((fail_if_success (with_reducible refine drawn_mark ?_))
           first
             | go_step
             | go_upon
             | go_back
             | (simp only [Int.not_lt, Int.not_le] at *; go_simp)
             | (go_values <;> (try go_simp))
             | (go_ite <;> go_prune <;> (try go_simp))
             | (split <;> (first | (rename_i hx; exact (hx _ rfl).elim) | go_prune))))
      obtain ⟨w6, hw6⟩ : ∃ x, x = wr.alloc (.cells #[.int .i64 r.1, .map (some r.2)] 75) := ⟨_, rfl⟩
      rw [← hw6]
      have hb6 : Below wr.heap.size wr w6 := by rw [hw6]; exact keep_alloc (Below.refl _ _) _
      have hs6 : w6.heap.size = wr.heap.size + 1 := by rw [hw6]; simp
      have hx6 : Blk w6 wr.heap.size 75 #[.int .i64 r.1, .map (some r.2)] := by rw [hw6]; exact Blk.new _ _ _
      have ho6 : Blk w6 (w.heap.size + 1 + 1 + 1) 60 #[.map (some (w.heap.size + 1 + 1)), sv'] := HL3.out.below hb6 HL3.out.lt
      obtain ⟨S1, hS1⟩ : ∃ S1 : World → Prop, S1 = fun W => W.heap[wr.heap.size]? = w6.heap[wr.heap.size]? ∧ W.heap[w.heap.size + 1 + 1 + 1]? = w6.heap[w.heap.size + 1 + 1 + 1]? := ⟨_, rfl⟩
      have f1 : ∀ W, S1 W → W.cell? ⟨wr.heap.size, 0, none⟩ = some (.int .i64 r.1) := fun W hW => by rw [hS1] at hW; exact (show Blk W _ _ _ from hW.1.trans hx6).at_ rfl
      have f2 : ∀ W, S1 W → W.cell? ⟨wr.heap.size, 1, none⟩ = some (.map (some r.2)) := fun W hW => by rw [hS1] at hW; exact (show Blk W _ _ _ from hW.1.trans hx6).at_ rfl
      have f3 : ∀ W, S1 W → W.cell? ⟨w.heap.size + 1 + 1 + 1, 1, none⟩ = some sv' := fun W hW => by rw [hS1] at hW; exact (show Blk W _ _ _ from hW.2.trans ho6).at_ rfl
      have hSw : S1 w6.drew := by rw [hS1]; exact ⟨rfl, rfl⟩
      have hS2 : ∀ W, W.heap[wr.heap.size]? = w6.heap[wr.heap.size]? → W.heap[w.heap.size + 1 + 1 + 1]? = w6.heap[w.heap.size + 1 + 1 + 1]? → S1 W := fun W a b => by rw [hS1]; exact ⟨a, b⟩
      have HSS := Lib.hid hS2
      have HB6 := Lib.hid hb6
      have HS6 := Lib.hid hs6
      have HX6 := Lib.hid hx6
      have HO6 := Lib.hid ho6
      have hol := HL3.out.lt
      have HOL := Lib.hid hol
      clear hw6 hb6 hs6 hx6 ho6 hS1 hS2 hol c10 c11
      refine wp_region_eff S1 [6, 7, 8, 9] 11 (by kernel_rfl) (by kernel_rfl) (by kernel_rfl) hSw ?_
      simp only [List.take_succ_cons, List.take_zero, List.drop_succ_cons, List.drop_zero]
      refine wpLexE_take 6 (by kernel_rfl) (by kernel_rfl) ?_
      simp only [List.take_succ_cons, List.take_zero, List.drop_succ_cons, List.drop_zero]
      repeat (first
        | go_big_quiet_skip
        | (go_big_quiet_want
           go_big_quiet_op
           first
             | go_big_quiet_on
             | (apply Exists.intro
                refine ⟨fun W hW => ?_, ?_⟩
                · first
                    | exact rfl
                    | exact ⟨rfl, rfl⟩
                    | (have e0 := f1 W hW; have e1 := f2 W hW; have e2 := f3 W hW; simp only [e0, e1, e2, Result.andThen_ok]; done)
                    | (have e0 := f1 W hW; have e1 := f2 W hW; have e2 := f3 W hW; simp only [e0, e1, e2, Result.andThen_ok]; first | exact ⟨trivial, rfl⟩ | exact rfl | exact ⟨rfl, rfl⟩)
                    | (skip)
                go_big_quiet_on)))
      refine wpQuiet_nil ?_
      show wpLexE _ _ _ _ _ _ _ _ _
      refine wpLexE_eff (by kernel_rfl) rfl ?_
      go_wp2_with fail
      refine (clone_any (w := w6.drew) (N := N) (D := q.2) (MapT.same HMAP.out (HB6.out.block _ (World.ownsMap.lt HMAP.out)))).mono ?_
      rintro e w7 ⟨rfl, hm7, hs7, hb7⟩
      have hd6 : w6.drew.heap.size = w6.heap.size := rfl
      rw [hd6] at hm7 hs7 hb7
      have HM7 := Lib.hid hm7
      have HS7 := Lib.hid hs7
      have HB7 : Hid (Below w6.heap.size w6 w7) := Lib.hid ⟨hb7.os, hb7.tape, hb7.output, hb7.size, fun i hi => hb7.block i hi⟩
      have HSW7 : Hid (S1 w7) := Lib.hid (HSS.out _ (HB7.out.block _ (by have := HS6.out; omega)) (HB7.out.block _ (by have := HS6.out; have := HOL.out; omega)))
      clear hm7 hs7 hb7 hd6 hSw
      go_wp2_with fail
      refine ⟨rfl, HSW7.out, ?_⟩
      refine wpLexE_eff (by kernel_rfl) rfl ?_
      go_wp2_with fail
      refine ⟨rfl, HSW7.out, ?_⟩
      refine wpLexE_eff (by kernel_rfl) rfl ?_
      go_wp2_with fail
      have hx7 : ∀ (X : Obj) i, i < w7.heap.size → (w7.alloc X).heap[i]? = w7.heap[i]? := fun X i hi => Below.heap_alloc w7 X i hi
      have e7a : wr.heap.size < w7.heap.size := by have := HS6.out; have := HS7.out; omega
      have e7b : w.heap.size + 1 + 1 + 1 < w7.heap.size := by have := HOL.out; omega
      have g7 : ∀ i, i < wr.heap.size → w7.heap[i]? = wr.heap[i]? := fun i hi => (HB7.out.block i (by have := HS6.out; omega)).trans (HB6.out.block i hi)
      have g7x : w7.heap[wr.heap.size]? = w6.heap[wr.heap.size]? := HB7.out.block _ (by have := HS6.out; omega)
      have g7o : w7.heap[w.heap.size + 1 + 1 + 1]? = w6.heap[w.heap.size + 1 + 1 + 1]? := HB7.out.block _ (by have := HS6.out; have := HOL.out; omega)
      refine ⟨rfl, HSS.out _ ((hx7 _ _ e7a).trans g7x) ((hx7 _ _ e7b).trans g7o), ?_⟩
      have hrow7 : (w7.alloc (.cells #[.int .i64 r.1, .map (some w6.heap.size)] 75)).ownsRow 0 75 2 sv' rs'.length (rowC rs') :=
        ownsRow_same HROW.out.row (fun b e => by have := HROW.out.lt.1 b e; exact (hx7 _ b (by omega)).trans (g7 b this))
      have hfw := HROW.out.few
      refine wpLexE_eff (by kernel_rfl) rfl ?_
      refine wpList_append_own_at _ rfl (.tmp 21) (.tmp 28) 58 rfl 0 75 i0 (.agg #[.int .i64 0, .map none]) 2 16 Try.underlying58 hi hz0 hz1 hz2 rfl (by decide) sv' _ _ rfl hrow7 ⟨w7.heap.size, 0, none⟩ 1 1 [.int .i64 r.1, .map (some w6.heap.size)] rfl rfl ?c1 ?c2 (by unfold maxLen; omega) (by omega) (Nat.zero_le _) ?_
      case c1 =>
        intro j u hj
        rw [Addr.add_mid, Nat.zero_add]
        exact (Blk.new w7 75 #[.int .i64 r.1, .map (some w6.heap.size)]).at_ (by simpa using hj)
      case c2 => intro u hu; simp at hu; rcases hu with rfl | rfl <;> rfl
      intro v' w8 hown' hgrow hnil hloc
      obtain ⟨gn, cap8, rfl, _, _⟩ := hown'.form (by omega)
      have hnb : ∀ b, sv'.ownBlock = some b → w.heap.size + 4 ≤ b ∧ b < wr.heap.size := fun b e => ⟨HNEW2.out b e, HROW.out.lt.1 b e⟩
      have g8 : ∀ i, i < w7.heap.size → (∀ b, sv'.ownBlock = some b → b ≠ i) → w8.heap[i]? = w7.heap[i]? := fun i hi hn => (hgrow.block i (by simp; omega) (fun e => hn i e.symm rfl)).trans (hx7 _ i hi)
      have hsz8 : w7.heap.size + 1 ≤ w8.heap.size := by have := hgrow.size; simpa using this
      refine ⟨rfl, HSS.out _ ((g8 _ e7a (fun b e h => by have := hnb b e; omega)).trans g7x) ((g8 _ e7b (fun b e h => by have := hnb b e; omega)).trans g7o), ?_⟩
      have HG8 := Lib.hid g8
      have HB8 : Hid (Below w.heap.size w w8) := Lib.hid ((keep_alloc (keep_below HB7.out (keep_below HB6.out HBW.out)) _).grown hgrow (by have := HSZ4.out; simp; omega) (fun b e => by have := hnb b e; omega))
      have hSw8 : S1 w8 := HSS.out _ ((g8 _ e7a (fun b e h => by have := hnb b e; omega)).trans g7x) ((g8 _ e7b (fun b e h => by have := hnb b e; omega)).trans g7o)
      have HO8 : Hid (Blk w8 (w.heap.size + 1 + 1 + 1) 60 #[.map (some (w.heap.size + 1 + 1)), sv']) := Lib.hid (((g8 _ e7b (fun b e h => by have := hnb b e; omega)).trans g7o).trans HO6.out)
      have c80 := f3 w8 hSw8
      have z80 : w8.frozen? ⟨w.heap.size + 1 + 1 + 1, 1, none⟩ = false := HO8.out.fr 1
      have HE7 := Lib.hid e7a
      have HG7 := Lib.hid g7
      have HNB := Lib.hid hnb
      have HOWN := Lib.hid hown'
      have HLOC := Lib.hid hloc
      have HZ8 := Lib.hid hsz8
      clear hrow7 hown' hgrow hnil hloc g8 g7 g7x g7o hnb hsz8 hx7 e7a e7b
      simp only [Act.put, List.setIfInBounds_toArray, List.set_cons_zero, List.set_cons_succ]
      refine wpLexE_take 1 (by kernel_rfl) (by kernel_rfl) ?_
      simp only [List.take_succ_cons, List.take_zero, List.drop_succ_cons, List.drop_zero]
      repeat (first
        | go_big_quiet_skip
        | (go_big_quiet_want
           go_big_quiet_op
           first
             | go_big_quiet_on
             | (apply Exists.intro
                refine ⟨fun W hW => ?_, ?_⟩
                · first
                    | exact rfl
                    | exact ⟨rfl, rfl⟩
                    | (have e0 := f1 W hW; have e1 := f2 W hW; have e2 := f3 W hW; simp only [e0, e1, e2, Result.andThen_ok]; done)
                    | (have e0 := f1 W hW; have e1 := f2 W hW; have e2 := f3 W hW; simp only [e0, e1, e2, Result.andThen_ok]; first | exact ⟨trivial, rfl⟩ | exact rfl | exact ⟨rfl, rfl⟩)
                    | (skip)
                go_big_quiet_on)))
      refine wpQuiet_nil ?_
      show wpList _ _ _ _ _ _
      go_wp2_with fail
      obtain ⟨w9, hw9⟩ : ∃ x, x = w8.setCell ⟨w.heap.size + 1 + 1 + 1, 1, none⟩ (.slice (some ⟨gn, 0, none⟩) (rs'.length + 1) cap8) := ⟨_, rfl⟩
      have g9 : ∀ i, i ≠ w.heap.size + 1 + 1 + 1 → w9.heap[i]? = w8.heap[i]? := fun i hi => by rw [hw9]; exact Below.heap_setCell w8 ⟨w.heap.size + 1 + 1 + 1, 1, none⟩ _ i hi
      have hb9 : Below w.heap.size w w9 := by rw [hw9]; exact below_set HB8.out _ _ _ (by omega)
      have ho9 : Blk w9 (w.heap.size + 1 + 1 + 1) 60 #[.map (some (w.heap.size + 1 + 1)), .slice (some ⟨gn, 0, none⟩) (rs'.length + 1) cap8] := by rw [hw9]; exact HO8.out.put 1 _
      have hs9 : w9.heap.size = w8.heap.size := by rw [hw9]; simp [World.setCell]
      have p1 := HS6.out
      have p2 := HS7.out
      have p3 := HZ8.out
      have p4 := HSZ4.out
      have hnrow : ∀ b, sv'.ownBlock = some b → ∀ i D0, MapT wr i N D0 → b ≠ i := by
        rintro b hb i D0 hm rfl
        obtain ⟨es, cl, he, _⟩ := hm
        rcases HROW.out.row.2 with ⟨rfl, _⟩ | ⟨g', cap, cur, rfl, _, h2, _⟩
        · cases hb
        · cases hb; rw [h2] at he; cases he
      have old : ∀ i, i < wr.heap.size → i ≠ w.heap.size + 1 + 1 + 1 → (∀ b, sv'.ownBlock = some b → b ≠ i) → w9.heap[i]? = wr.heap[i]? := fun i hi h1 h2 => ((g9 i h1).trans (HG8.out i (by omega) h2)).trans (HG7.out i hi)
      have hrl : rs'.length = k := by
        have := HROW.out.len
        rw [List.length_take, ← HR.out.len] at this
        omega
      have hgn : gn ≠ w.heap.size + 1 + 1 + 1 := by
        rcases HLOC.out with e | e
        · have := HNB.out gn e.symm; omega
        · simp [Value.ownBlock] at e; omega
      have hmq : MapT w9 w6.heap.size N q.2 := by
        refine MapT.same HM7.out ((g9 _ (by omega)).trans (HG8.out _ (by omega) (fun b e => by have := HNB.out b e; omega)))
      rw [← hw9]
      go_roundw
      case rel =>
        refine ⟨k + 1, _, rs' ++ [(r.1, w6.heap.size)], HLT.out, by go_num, hb9, ?_, ho9, ?_, ?_, ?_, ?_, ?_, ?_⟩
        · exact (old _ (by omega) (by omega) (fun b e => by have := HNB.out b e; omega)).trans HL1.out
        · exact MapT.same HM.out (old _ (by omega) (by omega) (fun b e => by have := HNB.out b e; omega))
        · have htk : ss.take (k + 1) = ss.take k ++ [q] := by rw [List.take_add_one, HQ.out]; rfl
          rw [htk]
          have hlen2 : (rs' ++ [(r.1, w6.heap.size)]).length = rs'.length + 1 := by simp
          have hlk : (ss.take k).length = k := by have := HROW.out.len; omega
          refine ⟨?_, by rw [List.length_append, List.length_append, HROW.out.len]; rfl, ?_, ?_, by rw [hlen2]; have := HLT.out; omega⟩
          · rw [hlen2, rowC_snoc]
            exact ownsRow_same HOWN.out (fun b e => by cases e; exact g9 gn hgn)
          · intro i r1 p1 h1 h2
            by_cases hik : i < k
            · rw [List.getElem?_append_left (by omega)] at h1
              rw [List.getElem?_append_left (by omega)] at h2
              exact HROW.out.ids i r1 p1 h1 h2
            · have hi2 : i = k := by have := (List.getElem?_eq_some_iff.1 h1).1; rw [hlen2] at this; omega
              subst hi2
              rw [List.getElem?_append_right (by omega), hrl, Nat.sub_self] at h1
              rw [List.getElem?_append_right (by omega), hlk, Nat.sub_self] at h2
              simp at h1 h2
              rw [← h1, ← h2]
              exact HID.out
          · intro i r1 p1 h1 h2
            by_cases hik : i < k
            · rw [List.getElem?_append_left (by omega)] at h1
              rw [List.getElem?_append_left (by omega)] at h2
              have hm := HROW.out.maps i r1 p1 h1 h2
              have hge := HNEW.out r1 (List.mem_of_getElem? h1)
              exact MapT.same hm (old _ (World.ownsMap.lt hm) (by omega) (fun b e => hnrow b e _ _ hm))
            · have hi2 : i = k := by have := (List.getElem?_eq_some_iff.1 h1).1; rw [hlen2] at this; omega
              subst hi2
              rw [List.getElem?_append_right (by omega), hrl, Nat.sub_self] at h1
              rw [List.getElem?_append_right (by omega), hlk, Nat.sub_self] at h2
              simp at h1 h2
              rw [← h1, ← h2]
              exact hmq
        · intro r1 h1
          rcases List.mem_append.1 h1 with h1 | h1
          · exact HNEW.out r1 h1
          · simp at h1; rw [h1]; show w.heap.size + 4 ≤ w6.heap.size; omega
        · intro b e
          cases e
          rcases HLOC.out with e | e
          · exact (HNB.out gn e.symm).1
          · show w.heap.size + 4 ≤ gn
            simp [Value.ownBlock] at e; omega
        · rw [List.map_append, List.nodup_append]
          refine ⟨HND.out, by simp, fun a ha b hb => ?_⟩
          simp at hb
          obtain ⟨r1, hr1, rfl⟩ := List.mem_map.1 ha
          have := HROW.out.lt.2 r1 hr1
          omega
        · omega
      case measure => have := HLT.out; simp [intOf]; omega
    · obtain rfl : k = rs.length := by omega
      have hform2 : ∃ A' c' n', sv' = .slice A' n' c' := by
        rcases HROW.out.row.2 with ⟨rfl, h0⟩ | ⟨b, cap, cur, rfl, _⟩
        · exact ⟨none, 0, 0, rfl⟩
        · exact ⟨_, _, _, rfl⟩
      obtain ⟨A', c', n', rfl⟩ := hform2
      have hdc : decide (rs.length < rs.length) = false := decide_eq_false (Nat.lt_irrefl _)
      have hr := HROW.out
      rw [HR.out.len, List.take_length] at hr
      have HR2 := Lib.hid hr
      have c30 := HL3.out.at_ (i := 0) rfl
      have c31 := HL3.out.at_ (i := 1) rfl
      have d0 := HL1.out.at_ (i := 0) rfl
      have d1 := HL1.out.at_ (i := 1) rfl
      have z0 := HL1.out.fr 0
      have z1 := HL1.out.fr 1
      clear hr hlt hk
      go_wp2_with fail
      obtain ⟨w9, hw9⟩ : ∃ x, x = (wr.setCell ⟨w.heap.size + 1, 0, none⟩ (.map (some (w.heap.size + 1 + 1)))).setCell ⟨w.heap.size + 1, 1, none⟩ (.slice A' n' c') := ⟨_, rfl⟩
      have hk9 : Blk w9 (w.heap.size + 1) 60 #[.map (some (w.heap.size + 1 + 1)), .slice A' n' c'] := by rw [hw9]; exact (HL1.out.put 0 _).put 1 _
      have y0 := hk9.at_ (i := 0) rfl
      have y1 := hk9.at_ (i := 1) rfl
      have g9 : ∀ i, i ≠ w.heap.size + 1 → w9.heap[i]? = wr.heap[i]? := fun i hi => by
        rw [hw9]
        exact (Below.heap_setCell _ ⟨w.heap.size + 1, 1, none⟩ _ i hi).trans (Below.heap_setCell _ ⟨w.heap.size + 1, 0, none⟩ _ i hi)
      have hb9 : Below w.heap.size w w9 := by rw [hw9]; exact below_set (below_set HBW.out _ _ _ (by omega)) _ _ _ (by omega)
      rw [← hw9]
      refine bodyPost_ret (v := .agg #[.map (some (w.heap.size + 1 + 1)), .slice A' n' c']) (by simp [results, Try.results25, go_sem, y0, y1]) rfl ?_
      refine ⟨_, _, rs', rfl, MapT.same HM.out (g9 _ (by omega)), HR2.out.same (fun b e => g9 _ (by have := HNEW2.out b e; omega)) (fun r hr => g9 _ (by have := HNEW.out r hr; omega)), hb9, by omega, fun r hr => by have := HNEW.out r hr; omega, fun b e => by have := HNEW2.out b e; omega, ?_⟩
      rw [List.nodup_cons]
      refine ⟨fun h => ?_, HND.out⟩
      obtain ⟨r, hr, e⟩ := List.mem_map.1 h
      have := HNEW.out r hr
      omega
end Go.Proofs.Ytckicdbiiepngaa
