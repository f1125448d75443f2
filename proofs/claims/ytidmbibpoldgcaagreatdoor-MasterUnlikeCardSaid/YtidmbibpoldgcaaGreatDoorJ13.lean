/-
  Layer 17: slices.Clone, master.Copy.
  Layer 17: what a state's bytes ask; the document's example.
-/
import Derived.Test.YtidmbibpoldgcaaGreatDoorJ12
import Derived.Lib.SliceRun
import Derived.Test.YtidmbibpoldgcaaGreatDoorJ10
namespace Go.Proofs.YtidmbibpoldgcaaGreatDoor
set_option linter.unusedVariables false
set_option linter.unusedSimpArgs false
open Go.RowKit

set_option maxRecDepth 20000 in
theorem cloneS_any (ss : List SnapA) (sv : Value) (w : World) (h : RowAt w sv ss.length (snapC ss)) (f1 : ss.length ≤ 30) :
    Calls Tryz.prog 32 #[sv] w fun e w' => ∃ v, e = .returned v ∧ w'.ownsRow w.heap.size 75 15 v ss.length (snapC ss) ∧ Below w.heap.size w w' := by
  obtain ⟨i0, hi, hz0, hz1, hz2⟩ := info_parts Tryz.infoMSnap
  obtain ⟨A, c, rfl⟩ := h.form
  cases A with
  | none =>
    have h0 : ss.length = 0 := by
      by_cases e : 0 < ss.length
      · obtain ⟨b, o, he, _⟩ := h.cells e; cases he
      · omega
    have h1 : ss = [] := List.length_eq_zero_iff.1 h0
    subst h1
    have hq : ∀ W, (binOp .eql 43 (.slice none 0 c) (.slice none 0 0)).run Tryz.prog W = .ok (.bool true) W := fun W => Lib.run_eql_slice_nil W _ _ none _ _ _ _ Tryz.underlying43
    clear h
    go_enter Tryz.func32, Tryz.ntmps32
    go_wp2_with fail
    go_ret
    exact ⟨_, rfl, World.ownsRow_nil _ _ _ _, Below.refl _ _⟩
  | some ad =>
    have H := Lib.hid h
    have hq : ∀ W, (binOp .eql 43 (.slice (some ad) ss.length c) (.slice none 0 0)).run Tryz.prog W = .ok (.bool false) W := fun W => Lib.run_eql_slice_nil W _ _ (some ad) _ _ _ _ Tryz.underlying43
    clear h
    go_enter Tryz.func32, Tryz.ntmps32
    have hown : (w.alloc (.cells #[] 75)).ownsRow w.heap.size 75 15 (.slice (some ⟨w.heap.size, 0, none⟩) 0 0) 0 [] :=
      ⟨rfl, .inr ⟨w.heap.size, 0, #[], rfl, Nat.le_refl _, heap_alloc_new w _, Nat.le_refl _, by unfold maxLen; omega, rfl, rfl⟩⟩
    have hnews : ∀ j u, (snapC ss)[j]? = some u → (w.alloc (.cells #[] 75)).cell? (ad.add j) = some u := fun j u hu => by
      have hj := (List.getElem?_eq_some_iff.1 hu).1
      rw [snapC_len] at hj
      obtain ⟨b, o, he, hb, hc⟩ := H.out.cells (by omega)
      cases he
      rw [Addr.add_mid]
      exact cell_alloc (hc j u hu) _
    have h1c : ∀ u ∈ snapC ss, u.oneCell' = true := fun u hu => by
      simp only [snapC, List.mem_flatMap] at hu
      obtain ⟨x, _, hx⟩ := hu
      simp only [snapL, List.mem_cons, List.not_mem_nil, or_false] at hx
      rcases hx with rfl | rfl | rfl | rfl | rfl | rfl | rfl | rfl | rfl | rfl | rfl | rfl | rfl | rfl | rfl <;> rfl
    go_wp2_with (at_builtin; refine wpList_append_own_at _ rfl _ _ 43 rfl w.heap.size 75 i0 _ 15 120 Tryz.underlying43 hi hz0 hz1 hz2 rfl (by decide) _ _ _ rfl hown ad ss.length c (snapC ss) rfl (snapC_len ss) hnews h1c (by unfold maxLen; omega) (by omega) (by simp) ?_)
    intro v' w8 hown' hgrow _ _
    have HO := Lib.hid hown'
    have HB : Hid (Below w.heap.size w w8) := Lib.hid ((keep_alloc (Below.refl _ w) _).grown hgrow (by simp) (fun y e => by simp [Value.ownBlock] at e; omega))
    clear hown' hgrow hown hnews h1c
    go_wp2_with fail
    go_ret
    exact ⟨_, rfl, HO.out, HB.out⟩
set_option maxRecDepth 20000 in
theorem cloneR_any (ss : List (Int × Int)) (sv : Value) (w : World) (h : RowAt w sv ss.length (staC ss)) (f1 : ss.length ≤ 60) :
    Calls Tryz.prog 33 #[sv] w fun e w' => ∃ v, e = .returned v ∧ w'.ownsRow w.heap.size 61 2 v ss.length (staC ss) ∧ Below w.heap.size w w' := by
  obtain ⟨i0, hi, hz0, hz1, hz2⟩ := info_parts Tryz.infoRange
  obtain ⟨A, c, rfl⟩ := h.form
  cases A with
  | none =>
    have h0 : ss.length = 0 := by
      by_cases e : 0 < ss.length
      · obtain ⟨b, o, he, _⟩ := h.cells e; cases he
      · omega
    have h1 : ss = [] := List.length_eq_zero_iff.1 h0
    subst h1
    have hq : ∀ W, (binOp .eql 46 (.slice none 0 c) (.slice none 0 0)).run Tryz.prog W = .ok (.bool true) W := fun W => Lib.run_eql_slice_nil W _ _ none _ _ _ _ Tryz.underlying46
    clear h
    go_enter Tryz.func33, Tryz.ntmps33
    go_wp2_with fail
    go_ret
    exact ⟨_, rfl, World.ownsRow_nil _ _ _ _, Below.refl _ _⟩
  | some ad =>
    have H := Lib.hid h
    have hq : ∀ W, (binOp .eql 46 (.slice (some ad) ss.length c) (.slice none 0 0)).run Tryz.prog W = .ok (.bool false) W := fun W => Lib.run_eql_slice_nil W _ _ (some ad) _ _ _ _ Tryz.underlying46
    clear h
    go_enter Tryz.func33, Tryz.ntmps33
    have hown : (w.alloc (.cells #[] 61)).ownsRow w.heap.size 61 2 (.slice (some ⟨w.heap.size, 0, none⟩) 0 0) 0 [] :=
      ⟨rfl, .inr ⟨w.heap.size, 0, #[], rfl, Nat.le_refl _, heap_alloc_new w _, Nat.le_refl _, by unfold maxLen; omega, rfl, rfl⟩⟩
    have hnews : ∀ j u, (staC ss)[j]? = some u → (w.alloc (.cells #[] 61)).cell? (ad.add j) = some u := fun j u hu => by
      have hj := (List.getElem?_eq_some_iff.1 hu).1
      rw [staC_len] at hj
      obtain ⟨b, o, he, hb, hc⟩ := H.out.cells (by omega)
      cases he
      rw [Addr.add_mid]
      exact cell_alloc (hc j u hu) _
    have h1c : ∀ u ∈ staC ss, u.oneCell' = true := fun u hu => by
      simp only [staC, List.mem_flatMap] at hu
      obtain ⟨x, _, hx⟩ := hu
      simp only [staL, List.mem_cons, List.not_mem_nil, or_false] at hx
      rcases hx with rfl | rfl <;> rfl
    go_wp2_with (at_builtin; refine wpList_append_own_at _ rfl _ _ 46 rfl w.heap.size 61 i0 _ 2 16 Tryz.underlying46 hi hz0 hz1 hz2 rfl (by decide) _ _ _ rfl hown ad ss.length c (staC ss) rfl (staC_len ss) hnews h1c (by unfold maxLen; omega) (by omega) (by simp) ?_)
    intro v' w8 hown' hgrow _ _
    have HO := Lib.hid hown'
    have HB : Hid (Below w.heap.size w w8) := Lib.hid ((keep_alloc (Below.refl _ w) _).grown hgrow (by simp) (fun y e => by simp [Value.ownBlock] at e; omega))
    clear hown' hgrow hown hnews h1c
    go_wp2_with fail
    go_ret
    exact ⟨_, rfl, HO.out, HB.out⟩

set_option maxRecDepth 20000 in
theorem mcpy_any (s : StA) (sv tv : Value) (w : World) (h : StIn w s sv tv) (l1 : s.snaps.length ≤ 30) (l2 : s.stale.length ≤ 60) :
    Calls Tryz.prog 13 #[.agg (stC s sv tv)] w fun e w' => ∃ sv' tv', e = .returned (.agg (stC s sv' tv')) ∧ OwnSt 75 61 w.heap.size w' s sv' tv' ∧ Below w.heap.size w w' := by
  obtain ⟨A1, c1, rfl⟩ := h.snaps.form
  obtain ⟨A2, c2, rfl⟩ := h.stale.form
  have H := Lib.hid h
  clear h
  obtain ⟨cA, hcA⟩ : ∃ x, x = stC s (.slice A1 s.snaps.length c1) (.slice A2 s.stale.length c2) := ⟨_, rfl⟩
  rw [← hcA]
  obtain ⟨w2, hw2⟩ : ∃ x, (w.alloc (.cells cA 48)).alloc (.cells #[.int .i64 0, .int .i64 0, .int .i64 0, .int .i64 0, .int .i64 0, .bool false, .int .i64 0, .int .i64 0, .int .i64 0, .int .u64 0, .int .u64 0, .int .u64 0, .int .u64 0, .slice none 0 0, .int .i64 0, .int .i64 0, .int .i64 0, .int .i64 0, .int .i64 0, .int .i64 0, .int .i64 0, .int .i64 0, .int .i64 0, .slice none 0 0] 48) = x := ⟨_, rfl⟩
  have B2 : Blk w2 w.heap.size 48 cA := by rw [← hw2]; exact (Blk.new _ _ _).alloc _
  have Z2 : Blk w2 (w.heap.size + 1) 48 #[.int .i64 0, .int .i64 0, .int .i64 0, .int .i64 0, .int .i64 0, .bool false, .int .i64 0, .int .i64 0, .int .i64 0, .int .u64 0, .int .u64 0, .int .u64 0, .int .u64 0, .slice none 0 0, .int .i64 0, .int .i64 0, .int .i64 0, .int .i64 0, .int .i64 0, .int .i64 0, .int .i64 0, .int .i64 0, .int .i64 0, .slice none 0 0] := by rw [← hw2]; exact Blk.new2 w _ _ _
  have d2 : Below w.heap.size w w2 := by rw [← hw2]; exact keep_alloc (keep_alloc (Below.refl _ _) _) _
  have s2 : w2.heap.size = w.heap.size + 2 := by rw [← hw2]; simp
  rw [hcA] at B2
  have HB2 := Lib.hid B2
  have HZ2 := Lib.hid Z2
  have HD2 := Lib.hid d2
  have HS2 := Lib.hid s2
  clear hcA B2 Z2 d2 s2
  go_enter Tryz.func13, Tryz.ntmps13
  repeat' (first
    | go_values
    | go_skip
    | go_guarded
    | ((fail_if_success (with_reducible refine drawn_mark ?_))
       first
         | go_step
         | go_upon
         | go_back
         | (simp only [Int.not_lt, Int.not_le] at *; go_simp)
         | (go_values <;> (try go_simp))
         | (go_ite <;> go_prune <;> (try go_simp))
         | (split <;> (first | (rename_i hx; exact (hx _ rfl).elim) | go_prune))))
  obtain ⟨S0, hS0⟩ : ∃ S0 : World → Prop, S0 = fun W => Below w2.heap.size w2 W := ⟨_, rfl⟩
  have f0 : ∀ W, S0 W → W.cell? ⟨w.heap.size, 13, none⟩ = some (.slice A1 s.snaps.length c1) := fun W hW => by rw [hS0] at hW; exact (HB2.out.below hW HB2.out.lt).at_ rfl
  have f1 : ∀ W, S0 W → W.cell? ⟨w.heap.size, 23, none⟩ = some (.slice A2 s.stale.length c2) := fun W hW => by rw [hS0] at hW; exact (HB2.out.below hW HB2.out.lt).at_ rfl
  have hSw : S0 w2.drew := by rw [hS0]; exact (Below.refl _ _).drew
  have hSS : ∀ W, Below w2.heap.size w2 W → S0 W := fun W a => by rw [hS0]; exact a
  have HSS := Lib.hid hSS
  clear hS0 hSS
  refine wp_region_eff S0 [2, 5] 7 (by kernel_rfl) (by kernel_rfl) (by kernel_rfl) hSw ?_
  simp only [List.take_succ_cons, List.take_zero, List.drop_succ_cons, List.drop_zero]
  refine wpLexE_take 2 (by kernel_rfl) (by kernel_rfl) ?_
  simp only [List.take_succ_cons, List.take_zero, List.drop_succ_cons, List.drop_zero]
  repeat (first
    | go_big_quiet_skip
    | (go_big_quiet_want
       go_big_quiet_op
       first
         | go_big_quiet_on
         | (apply Exists.intro
            refine ⟨fun W hW => ?_, ?_⟩
            · first
                | exact rfl
                | exact ⟨rfl, rfl⟩
                | (have e0 := f0 W hW; have e1 := f1 W hW; simp only [e0, e1, Result.andThen_ok]; done)
                | (have e0 := f0 W hW; have e1 := f1 W hW; simp only [e0, e1, Result.andThen_ok]; first | exact ⟨trivial, rfl⟩ | exact rfl | exact ⟨rfl, rfl⟩)
                | (skip)
            go_big_quiet_on)))
  refine wpQuiet_nil ?_
  show wpLexE _ _ _ _ _ _ _ _ _
  refine wpLexE_eff (by kernel_rfl) rfl ?_
  go_wp2_with fail
  have h1 : RowAt w2.drew (.slice A1 s.snaps.length c1) s.snaps.length (snapC s.snaps) := H.out.snaps.below (below_drew' HD2.out)
  refine (cloneS_any s.snaps _ _ h1 l1).mono ?_
  rintro e w3 ⟨v1, rfl, r1, b3⟩
  have B3 : Below w2.heap.size w2 w3 := ⟨b3.os, b3.tape, b3.output, b3.size, fun i hi => b3.block i hi⟩
  have hd2 : w2.drew.heap.size = w2.heap.size := rfl
  rw [hd2] at r1
  have HR1 := Lib.hid r1
  have HB3 := Lib.hid B3
  have hS3 : S0 w3 := HSS.out _ B3
  clear h1 r1 b3 B3 hd2
  go_wp2_with fail
  refine ⟨rfl, hS3, ?_⟩
  refine wpLexE_take 2 (by kernel_rfl) (by kernel_rfl) ?_
  simp only [List.take_succ_cons, List.take_zero, List.drop_succ_cons, List.drop_zero]
  repeat (first
    | go_big_quiet_skip
    | (go_big_quiet_want
       go_big_quiet_op
       first
         | go_big_quiet_on
         | (apply Exists.intro
            refine ⟨fun W hW => ?_, ?_⟩
            · first
                | exact rfl
                | exact ⟨rfl, rfl⟩
                | (have e0 := f0 W hW; have e1 := f1 W hW; simp only [e0, e1, Result.andThen_ok]; done)
                | (have e0 := f0 W hW; have e1 := f1 W hW; simp only [e0, e1, Result.andThen_ok]; first | exact ⟨trivial, rfl⟩ | exact rfl | exact ⟨rfl, rfl⟩)
                | (skip)
            go_big_quiet_on)))
  refine wpQuiet_nil ?_
  show wpLexE _ _ _ _ _ _ _ _ _
  refine wpLexE_eff (by kernel_rfl) rfl ?_
  go_wp2_with fail
  have h2 : RowAt w3 (.slice A2 s.stale.length c2) s.stale.length (staC s.stale) := H.out.stale.below (HD2.out.trans (HB3.out.mono HD2.out.size))
  refine (cloneR_any s.stale _ _ h2 l2).mono ?_
  rintro e w4 ⟨v2, rfl, r2, b4⟩
  have B4 : Below w2.heap.size w2 w4 := keep_below b4 HB3.out
  have hS4 : S0 w4 := HSS.out _ B4
  have hr1 := ownsRow_same HR1.out (fun y e => b4.block y (HR1.out.lt y e).2)
  have hap : ∀ y, v2.ownBlock = some y → v1.ownBlock ≠ some y := fun y e1 e2 => by have := (HR1.out.lt y e2).2; have := (r2.lt y e1).1; omega
  obtain ⟨A3, c3, rfl⟩ := (rowAt_own hr1).form
  obtain ⟨A4, c4, rfl⟩ := (rowAt_own r2).form
  have HR1' := Lib.hid hr1
  have HR2 := Lib.hid r2
  have HAP := Lib.hid hap
  have HB4 := Lib.hid B4
  have K4 := HB2.out.below B4 HB2.out.lt
  have Z4 := HZ2.out.below B4 HZ2.out.lt
  have z13 : w4.frozen? ⟨w.heap.size, 13, none⟩ = false := K4.fr 13
  have z23 : w4.frozen? ⟨w.heap.size, 23, none⟩ = false := K4.fr 23
  have HK4 := Lib.hid K4
  have HZ4 := Lib.hid Z4
  clear h2 r2 b4 B4 hr1 hap K4 Z4
  go_wp2_with fail
  refine ⟨rfl, hS4, ?_⟩
  refine wpLexE_take 1 (by kernel_rfl) (by kernel_rfl) ?_
  simp only [List.take_succ_cons, List.take_zero, List.drop_succ_cons, List.drop_zero]
  repeat (first
    | go_big_quiet_skip
    | (go_big_quiet_want
       go_big_quiet_op
       first
         | go_big_quiet_on
         | (apply Exists.intro
            refine ⟨fun W hW => ?_, ?_⟩
            · first
                | exact rfl
                | exact ⟨rfl, rfl⟩
                | (have e0 := f0 W hW; have e1 := f1 W hW; simp only [e0, e1, Result.andThen_ok]; done)
                | (have e0 := f0 W hW; have e1 := f1 W hW; simp only [e0, e1, Result.andThen_ok]; first | exact ⟨trivial, rfl⟩ | exact rfl | exact ⟨rfl, rfl⟩)
                | (skip)
            go_big_quiet_on)))
  refine wpQuiet_nil ?_
  show wpList _ _ _ _ _ _
  have c13 := f0 w4 hS4
  have c23 := f1 w4 hS4
  have hb3s := HB3.out.size
  have hs2s := HS2.out
  obtain ⟨cB, hcB⟩ : ∃ x, x = stC s (.slice A3 s.snaps.length c3) (.slice A4 s.stale.length c4) := ⟨_, rfl⟩
  obtain ⟨w5, hw5⟩ : ∃ x, (w4.setCell ⟨w.heap.size, 13, none⟩ (.slice A3 s.snaps.length c3)).setCell ⟨w.heap.size, 23, none⟩ (.slice A4 s.stale.length c4) = x := ⟨_, rfl⟩
  have K5 : Blk w5 w.heap.size 48 cB := by rw [← hw5, hcB, ← stC_23 s _ (.slice A2 s.stale.length c2), ← stC_13 s (.slice A1 s.snaps.length c1)]; exact (HK4.out.put 13 _).put 23 _
  have g5 : ∀ i, i ≠ w.heap.size → w5.heap[i]? = w4.heap[i]? := fun i hi => by
    rw [← hw5]
    exact (Below.heap_setCell _ ⟨w.heap.size, 23, none⟩ _ i hi).trans (Below.heap_setCell _ ⟨w.heap.size, 13, none⟩ _ i hi)
  have Z5 : Blk w5 (w.heap.size + 1) 48 #[.int .i64 0, .int .i64 0, .int .i64 0, .int .i64 0, .int .i64 0, .bool false, .int .i64 0, .int .i64 0, .int .i64 0, .int .u64 0, .int .u64 0, .int .u64 0, .int .u64 0, .slice none 0 0, .int .i64 0, .int .i64 0, .int .i64 0, .int .i64 0, .int .i64 0, .int .i64 0, .int .i64 0, .int .i64 0, .int .i64 0, .slice none 0 0] := (g5 _ (by omega)).trans HZ4.out
  have b5 : Below w.heap.size w w5 := by rw [← hw5]; exact below_set (below_set (HD2.out.trans (HB4.out.mono HD2.out.size)) _ _ _ (Nat.le_refl _)) _ _ _ (Nat.le_refl _)
  have h1c : cB.all (·.oneCell') = true := by rw [hcB]; exact stC_one s A3 A4 _ _ _ _
  have hi43 : (Tryz.prog.info? 48).map (·.size) = some cB.size := by rw [hcB, stC_size]; kernel_rfl
  have hth : w5.there (w.heap.size + 1) 0 cB.size := Z5.there (by rw [hcB, stC_size]; exact Nat.le_refl 24)
  have HRES : Hid (Blk (w5.setCells (w.heap.size + 1) 0 cB.toList) (w.heap.size + 1) 48 cB) := Lib.hid (Z5.putAll _ (by rw [hcB]; rfl))
  have HS5 : Hid (∀ i, i ≠ w.heap.size → i ≠ w.heap.size + 1 → (w5.setCells (w.heap.size + 1) 0 cB.toList).heap[i]? = w4.heap[i]?) := Lib.hid fun i h1 h2 => (sets_far _ _ _ _ trivial h2).trans (g5 i h1)
  have HB5 : Hid (Below w.heap.size w (w5.setCells (w.heap.size + 1) 0 cB.toList)) := Lib.hid (below_sets _ _ b5 (by omega))
  have HCB := Lib.hid hcB
  clear f0 f1 hSw hS3 hS4 hcB g5 Z5 b5
  go_wp2_with (first
    | ((with_reducible refine wpList_load_want ?qw 48 (.tmp 1) ?q2 w.heap.size ?q3 48 cB _ K5 Tryz.underlying48 rfl hi43 ?_); (case q2 => rfl); (case q3 => rfl); (case qw => rfl))
    | ((with_reducible refine wpList_store_mid ?a1 48 (.tmp 2) (.tmp 11) ?a2 (w.heap.size + 1) 0 cB ?a3 ?a4 hth hi43 h1c ?_); (case a1 => rfl); (case a2 => rfl); (case a3 => rfl); (case a4 => rfl)))
  refine bodyPost_ret (v := .agg cB) (results_cell_row rfl _ _ (w.heap.size + 1) 48 cB (0, 0) _ rfl HRES.out Tryz.underlying48 rfl hi43) rfl ⟨_, _, by rw [HCB.out], ⟨?_, ?_, HAP.out⟩, HB5.out⟩
  · exact ownsRow_low (ownsRow_same HR1'.out (fun y e => HS5.out y (by have := HR1'.out.lt y e; omega) (by have := HR1'.out.lt y e; omega))) (by omega)
  · exact ownsRow_low (ownsRow_same HR2.out (fun y e => HS5.out y (by have := HR2.out.lt y e; omega) (by have := HR2.out.lt y e; omega))) (by omega)
end Go.Proofs.YtidmbibpoldgcaaGreatDoor

namespace Go.Proofs.YtidmbibpoldgcaaGreatDoor
set_option linter.unusedVariables false
set_option linter.unusedSimpArgs false
open Go.RowKit

def intsL (l : List Int) : List UInt8 := l.flatMap fun x => layL x.toNat 8
theorem intsL_len : ∀ l : List Int, (intsL l).length = l.length * 8
  | [] => rfl
  | x :: l => by
    have := intsL_len l
    simp only [intsL, List.flatMap_cons, List.length_append, layL_len, List.length_cons] at *
    omega
theorem intsL_snoc (l : List Int) (x : Int) : intsL (l ++ [x]) = intsL l ++ layL x.toNat 8 := by simp [intsL]
theorem only_one {w w' : World} {b : Nat} (ho : Only (fun i => i = b) w w') {i : Nat} (hi : i < w.heap.size) (hne : i ≠ b) : w'.heap[i]? = w.heap[i]? := ho.block i hi hne

set_option maxRecDepth 20000 in
theorem counts_any {w : World} {b g c : Nat} {o : List UInt8} {l : List Int} (hb : Blk w b 79 #[str o, .int .i64 0]) (hl : ∀ x ∈ l, 0 ≤ x ∧ x ≤ 4611686018427387903) (hn : l.length ≤ 9) (ho : o.length ≤ 5000)
    (hg : g < w.heap.size) (hgb : g ≠ b) (hc : ∀ i x, l[i]? = some x → w.cell? ⟨g, i, none⟩ = some (.int .i64 x)) :
    Calls Tryz.prog 25 #[.pointer (some ⟨b, 0, none⟩), .slice (some ⟨g, 0, none⟩) l.length c] w fun e w' => e = .returned (.tuple #[]) ∧ Blk w' b 79 #[str (o ++ intsL l), .int .i64 0] ∧ Only (fun i => i = b) w w' := by
  have HB := Lib.hid hb
  have HL := Lib.hid hl
  have HC := Lib.hid hc
  have HG := Lib.hid (And.intro hg hgb)
  have h0 : intsL (l.take 0) = [] := rfl
  clear hb hl hc hg hgb
  go_enter Tryz.func25, Tryz.ntmps25
  go_wp2_with fail
  go_loopw [5, 6, 9] (fun _ _ t wr => ∃ k : Nat, k ≤ l.length ∧ t = .int .i64 k ∧ Blk wr b 79 #[str (o ++ intsL (l.take k)), .int .i64 0] ∧ Only (fun i => i = b) w wr) (fun _ _ t _ => l.length - (RowKit.intOf t).toNat)
  case atStart => exact ⟨0, Nat.zero_le _, rfl, by rw [h0, List.append_nil]; exact HB.out, Only.refl _ _⟩
  case round =>
    clear h0
    obtain ⟨k, hk, rfl, hbk, hon⟩ := hrel
    have HBK := Lib.hid hbk
    have HON := Lib.hid hon
    by_cases hlt : k < l.length
    · obtain ⟨x, hx⟩ : ∃ x, l[k]? = some x := ⟨_, List.getElem?_eq_getElem hlt⟩
      have hcx : wr.cell? ⟨g, k, none⟩ = some (.int .i64 x) := (World.cell?_of_block (only_one hon HG.out.1 HG.out.2)).trans (HC.out k x hx)
      have hbx := HL.out x (List.mem_of_getElem? hx)
      have hi : intL x = layL x.toNat 8 := by unfold intL; rw [if_pos hbx]
      have HI : Hid (∀ W, Calls Tryz.prog 45 #[.int .i64 x] W fun e w' => e = .returned (str (layL x.toNat 8)) ∧ Below W.heap.size W w') := Lib.hid fun W => by have := int_any x W; rw [hi] at this; exact this
      have hx0 : (layL x.toNat 8).isEmpty = false := by rw [List.isEmpty_eq_false_iff]; exact layL_ne (by omega)
      have hll := layL_len x.toNat 8
      have htk : l.take (k + 1) = l.take k ++ [x] := by rw [List.take_add_one, hx]; rfl
      have HTK : Hid (intsL (l.take (k + 1)) = intsL (l.take k) ++ layL x.toNat 8) := Lib.hid (by rw [htk, intsL_snoc])
      have hol : (o ++ intsL (l.take k)).length ≤ 5072 := by rw [List.length_append, intsL_len, List.length_take]; omega
      have HLT := Lib.hid hlt
      have hdc : decide (k < l.length) = true := decide_eq_true hlt
      clear hi hx htk hbx hbk hon
      generalize layL x.toNat 8 = y at *
      obtain ⟨oo, hoo⟩ : ∃ z, z = o ++ intsL (l.take k) := ⟨_, rfl⟩
      rw [← hoo] at HBK hol
      have HOO := Lib.hid hoo
      clear hoo
      have hyy : (y == []) = false := by cases y with | nil => simp at hx0 | cons _ _ => rfl
      go_wp2_with fail
      refine (HI.out _).mono ?_
      rintro e w1 ⟨rfl, hb1⟩
      have hk1 := HBK.out.below hb1 HBK.out.lt
      have c0 := hk1.at_ (i := 0) rfl
      have z0 := hk1.fr 0
      have HK1 := Lib.hid hk1
      have HB1 := Lib.hid hb1
      have k1 : oo.length + y.length ≤ 9223372036854775807 := by omega
      clear hk1 hb1 hcx
      go_wp2_with fail
      rw [ByteArray.mk_append_mk]
      obtain ⟨w2, hw2⟩ : ∃ z, z = w1.setCell ⟨b, 0, none⟩ (str (oo ++ y)) := ⟨_, rfl⟩
      rw [← hw2]
      have hk2 : Blk w2 b 79 #[str (oo ++ y), .int .i64 0] := by
        rw [hw2]
        exact HK1.out.put 0 (str (oo ++ y))
      have ho2 : Only (fun i => i = b) w w2 := by rw [hw2]; exact (HON.out.then_below HB1.out).set (.inl rfl) _
      go_roundw
      case rel => exact ⟨k + 1, HLT.out, by go_num, by rw [HTK.out, ← List.append_assoc, ← HOO.out]; exact hk2, ho2⟩
      case measure => have := HLT.out; simp [RowKit.intOf]; omega
    · obtain rfl : k = l.length := by omega
      have hdc : decide ((l.length : Int) < l.length) = false := decide_eq_false (by omega)
      go_wp2_with fail
      go_end0
      exact ⟨rfl, by rw [List.take_length] at HBK; exact HBK.out, HON.out⟩

def zS : List UInt8 := nbS 0 ptrZ
theorem zS_len : zS.length = 128 := by kernel_rfl
theorem zS_ok : nbE 0 ptrZ = 0 := by kernel_rfl
theorem wnode_any {w : World} {b : Nat} {o : List UInt8} (hb : Blk w b 79 #[str o, .int .i64 0]) (ho : o.length ≤ 5000) :
    Calls Tryz.prog 24 #[.pointer (some ⟨b, 0, none⟩), .agg #[.int .i64 0, .int .i64 0, .int .i64 0, .int .i64 0, .int .i64 0, .bool false, .int .i64 0, .int .i64 0, .int .i64 0, .int .u64 0, .int .u64 0, .int .u64 0, .int .u64 0]] w fun e w' => e = .returned (.tuple #[]) ∧ Blk w' b 79 #[str (o ++ zS), .int .i64 0] ∧ Only (fun i => i = b) w w' := by
  have HB := Lib.hid hb
  have HN : Hid (∀ W, Calls Tryz.prog 44 #[.agg #[.int .i64 0, .int .i64 0, .int .i64 0, .int .i64 0, .int .i64 0, .bool false, .int .i64 0, .int .i64 0, .int .i64 0, .int .u64 0, .int .u64 0, .int .u64 0, .int .u64 0]] W fun e w' => e = .returned (.tuple #[str zS, .int .i64 0]) ∧ Below W.heap.size W w') := Lib.hid fun W => by
    have := nbytes_any 0 ptrZ W (by unfold PtrD.Ok ptrZ; decide)
    rw [zS_ok] at this
    exact this
  have hz := zS_len
  clear hb
  generalize zS = z at *
  obtain ⟨w1, hw1⟩ : ∃ x, w.alloc (.cells #[.int .i64 0, .int .i64 0, .int .i64 0, .int .i64 0, .int .i64 0, .bool false, .int .i64 0, .int .i64 0, .int .i64 0, .int .u64 0, .int .u64 0, .int .u64 0, .int .u64 0] 33) = x := ⟨_, rfl⟩
  have N1 : Blk w1 w.heap.size 33 #[.int .i64 0, .int .i64 0, .int .i64 0, .int .i64 0, .int .i64 0, .bool false, .int .i64 0, .int .i64 0, .int .i64 0, .int .u64 0, .int .u64 0, .int .u64 0, .int .u64 0] := by rw [← hw1]; exact Blk.new _ _ _
  have B1 : Blk w1 b 79 #[str o, .int .i64 0] := by rw [← hw1]; exact HB.out.alloc _
  have D1 : Hid (Only (fun i => i = b) w w1) := Lib.hid (by rw [← hw1]; exact (Only.refl _ _).alloc _)
  have s1 : w.heap.size < w1.heap.size := N1.lt
  have c0 : w1.cell? ⟨w.heap.size, 0, none⟩ = some (.int .i64 0) := N1.at_ rfl
  have c1 : w1.cell? ⟨w.heap.size, 1, none⟩ = some (.int .i64 0) := N1.at_ rfl
  have c2 : w1.cell? ⟨w.heap.size, 2, none⟩ = some (.int .i64 0) := N1.at_ rfl
  have c3 : w1.cell? ⟨w.heap.size, 3, none⟩ = some (.int .i64 0) := N1.at_ rfl
  have c4 : w1.cell? ⟨w.heap.size, 4, none⟩ = some (.int .i64 0) := N1.at_ rfl
  have c5 : w1.cell? ⟨w.heap.size, 5, none⟩ = some (.bool false) := N1.at_ rfl
  have c6 : w1.cell? ⟨w.heap.size, 6, none⟩ = some (.int .i64 0) := N1.at_ rfl
  have c7 : w1.cell? ⟨w.heap.size, 7, none⟩ = some (.int .i64 0) := N1.at_ rfl
  have c8 : w1.cell? ⟨w.heap.size, 8, none⟩ = some (.int .i64 0) := N1.at_ rfl
  have c9 : w1.cell? ⟨w.heap.size, 9, none⟩ = some (.int .u64 0) := N1.at_ rfl
  have c10 : w1.cell? ⟨w.heap.size, 10, none⟩ = some (.int .u64 0) := N1.at_ rfl
  have c11 : w1.cell? ⟨w.heap.size, 11, none⟩ = some (.int .u64 0) := N1.at_ rfl
  have c12 : w1.cell? ⟨w.heap.size, 12, none⟩ = some (.int .u64 0) := N1.at_ rfl
  have HB1 := Lib.hid B1
  clear N1 B1 s1
  go_enter Tryz.func24, Tryz.ntmps24
  go_wp2_with fail
  refine (HN.out _).mono ?_
  rintro e w2 ⟨rfl, hb2⟩
  have hk2 := HB1.out.below hb2 HB1.out.lt
  have q0 := hk2.at_ (i := 0) rfl
  have z0 := hk2.fr 0
  have HK2 := Lib.hid hk2
  have HD2 := Lib.hid (D1.out.then_below hb2)
  have k1 : o.length + z.length ≤ 9223372036854775807 := by omega
  clear hk2 hb2 c0 c1 c2 c3 c4 c5 c6 c7 c8 c9 c10 c11 c12
  go_wp2_with fail
  rw [ByteArray.mk_append_mk]
  go_end0
  refine ⟨rfl, ?_, HD2.out.set (.inl rfl) _⟩
  have := HK2.out.put 0 (.string ⟨o.toArray ++ z.toArray⟩)
  simpa [str] using this

/-- What a text holds behind a call that turns one block. -/
theorem only_blk {w w' : World} {b i : Nat} {t : TypeId} {cs : Array Value} (h : Blk w i t cs) (ho : Only (fun i => i = b) w w') (hne : i ≠ b) : Blk w' i t cs := (ho.block i h.lt hne).trans h
def exS : StA := ⟨0, ptrZ, ⟨0, 0, 0, 0, 0, 0, 0, 0, 0⟩, [], [(0, 0)]⟩
theorem ex_len : ((((((([] : List UInt8) ++ zS) ++ intsL [0]) ++ intsL [0, 0, 0, 0, 0, 0, 0, 0, 0]) ++ intsL [1]) ++ intsL [0, 0])).length = 232 := by
  simp only [List.length_append, intsL_len, zS_len]; rfl

theorem numbers_any (w : World) : Calls Tryz.prog 19 #[.agg #[.int .i64 0, .int .i64 0, .int .i64 0, .int .i64 0, .int .i64 0, .int .i64 0, .int .i64 0, .int .i64 0, .int .i64 0]] w fun e w' => ∃ g, e = .returned (.slice (some ⟨g, 0, none⟩) 9 9) ∧ Blk w' g 3 #[.int .i64 0, .int .i64 0, .int .i64 0, .int .i64 0, .int .i64 0, .int .i64 0, .int .i64 0, .int .i64 0, .int .i64 0] ∧ w.heap.size ≤ g ∧ Below w.heap.size w w' := by
  obtain ⟨w1, hw1⟩ : ∃ x, w.alloc (.cells #[.int .i64 0, .int .i64 0, .int .i64 0, .int .i64 0, .int .i64 0, .int .i64 0, .int .i64 0, .int .i64 0, .int .i64 0] 45) = x := ⟨_, rfl⟩
  have N1 : Blk w1 w.heap.size 45 #[.int .i64 0, .int .i64 0, .int .i64 0, .int .i64 0, .int .i64 0, .int .i64 0, .int .i64 0, .int .i64 0, .int .i64 0] := by rw [← hw1]; exact Blk.new _ _ _
  have D1 : Hid (Below w.heap.size w w1) := Lib.hid (by rw [← hw1]; exact keep_alloc (Below.refl _ _) _)
  have c0 : w1.cell? ⟨w.heap.size, 0, none⟩ = some (.int .i64 0) := N1.at_ rfl
  have c1 : w1.cell? ⟨w.heap.size, 1, none⟩ = some (.int .i64 0) := N1.at_ rfl
  have c2 : w1.cell? ⟨w.heap.size, 2, none⟩ = some (.int .i64 0) := N1.at_ rfl
  have c3 : w1.cell? ⟨w.heap.size, 3, none⟩ = some (.int .i64 0) := N1.at_ rfl
  have c4 : w1.cell? ⟨w.heap.size, 4, none⟩ = some (.int .i64 0) := N1.at_ rfl
  have c5 : w1.cell? ⟨w.heap.size, 5, none⟩ = some (.int .i64 0) := N1.at_ rfl
  have c6 : w1.cell? ⟨w.heap.size, 6, none⟩ = some (.int .i64 0) := N1.at_ rfl
  have c7 : w1.cell? ⟨w.heap.size, 7, none⟩ = some (.int .i64 0) := N1.at_ rfl
  have c8 : w1.cell? ⟨w.heap.size, 8, none⟩ = some (.int .i64 0) := N1.at_ rfl
  have hlt : w.heap.size < w1.heap.size := N1.lt
  have HLT := Lib.hid hlt
  clear N1 hlt
  go_enter Tryz.func19, Tryz.ntmps19
  go_wp2_with fail
  go_ret
  exact ⟨_, rfl, Blk.new _ _ _, by have := HLT.out; omega, keep_alloc D1.out _⟩
theorem nine_zero : ∀ (i : Nat) (x : Int), ([0, 0, 0, 0, 0, 0, 0, 0, 0] : List Int)[i]? = some x → (#[.int .i64 0, .int .i64 0, .int .i64 0, .int .i64 0, .int .i64 0, .int .i64 0, .int .i64 0, .int .i64 0, .int .i64 0] : Array Value)[i]? = some (.int .i64 x)
  | 0, _, h | 1, _, h | 2, _, h | 3, _, h | 4, _, h | 5, _, h | 6, _, h | 7, _, h | 8, _, h => by simp at h; subst h; rfl
  | n + 9, _, h => by simp at h

theorem row1 (w : World) (a : Int) (t : TypeId) : ∀ (i : Nat) (x : Int), ([a] : List Int)[i]? = some x → (w.alloc (.cells #[.int .i64 a] t)).cell? ⟨w.heap.size, i, none⟩ = some (.int .i64 x)
  | 0, _, h => by simp at h; subst h; exact (Blk.new w t #[.int .i64 a]).at_ rfl
  | n + 1, _, h => by simp at h
theorem row2 (w : World) (a b : Int) (t : TypeId) : ∀ (i : Nat) (x : Int), ([a, b] : List Int)[i]? = some x → (w.alloc (.cells #[.int .i64 a, .int .i64 b] t)).cell? ⟨w.heap.size, i, none⟩ = some (.int .i64 x)
  | 0, _, h => by simp at h; subst h; exact (Blk.new w t #[.int .i64 a, .int .i64 b]).at_ rfl
  | 1, _, h => by simp at h; subst h; exact (Blk.new w t #[.int .i64 a, .int .i64 b]).at_ rfl
  | n + 2, _, h => by simp at h

set_option maxRecDepth 20000 in
theorem bytes_ex {w : World} {g : Nat} (hg : Blk w g 61 #[.int .i64 0, .int .i64 0]) :
    Calls Tryz.prog 9 #[.agg (stC exS nilV (.slice (some ⟨g, 0, none⟩) 1 1))] w fun e w' => ∃ t : List UInt8, t.length = 232 ∧ e = .returned (.tuple #[str t, .int .i64 0]) ∧ Below w.heap.size w w' := by
  obtain ⟨cA, hcA⟩ : ∃ x, x = stC exS nilV (.slice (some ⟨g, 0, none⟩) 1 1) := ⟨_, rfl⟩
  rw [← hcA]
  obtain ⟨w2, hw2⟩ : ∃ x, (w.alloc (.cells cA 48)).alloc (.cells #[.string ⟨#[]⟩, .int .i64 0] 79) = x := ⟨_, rfl⟩
  have B2 : Blk w2 w.heap.size 48 cA := by rw [← hw2]; exact (Blk.new _ _ _).alloc _
  have W2 : Blk w2 (w.heap.size + 1) 79 #[str [], .int .i64 0] := by rw [← hw2]; exact Blk.new2 w _ _ _
  have d2 : Below w.heap.size w w2 := by rw [← hw2]; exact keep_alloc (keep_alloc (Below.refl _ _) _) _
  have G2 : Blk w2 g 61 #[.int .i64 0, .int .i64 0] := hg.below d2 hg.lt
  rw [hcA] at B2
  have hgl := hg.lt
  have b2 : ∀ i v, (stC exS nilV (.slice (some ⟨g, 0, none⟩) 1 1))[i]? = some v → w2.cell? ⟨w.heap.size, i, none⟩ = some v := fun i v hv => B2.at_ hv
  have c0 : w2.cell? ⟨w.heap.size, 0, none⟩ = some (.int .i64 0) := b2 0 _ rfl
  have c1 : w2.cell? ⟨w.heap.size, 1, none⟩ = some (.int .i64 0) := b2 1 _ rfl
  have c2 : w2.cell? ⟨w.heap.size, 2, none⟩ = some (.int .i64 0) := b2 2 _ rfl
  have c3 : w2.cell? ⟨w.heap.size, 3, none⟩ = some (.int .i64 0) := b2 3 _ rfl
  have c4 : w2.cell? ⟨w.heap.size, 4, none⟩ = some (.int .i64 0) := b2 4 _ rfl
  have c5 : w2.cell? ⟨w.heap.size, 5, none⟩ = some (.bool false) := b2 5 _ rfl
  have c6 : w2.cell? ⟨w.heap.size, 6, none⟩ = some (.int .i64 0) := b2 6 _ rfl
  have c7 : w2.cell? ⟨w.heap.size, 7, none⟩ = some (.int .i64 0) := b2 7 _ rfl
  have c8 : w2.cell? ⟨w.heap.size, 8, none⟩ = some (.int .i64 0) := b2 8 _ rfl
  have c9 : w2.cell? ⟨w.heap.size, 9, none⟩ = some (.int .u64 0) := b2 9 _ rfl
  have c10 : w2.cell? ⟨w.heap.size, 10, none⟩ = some (.int .u64 0) := b2 10 _ rfl
  have c11 : w2.cell? ⟨w.heap.size, 11, none⟩ = some (.int .u64 0) := b2 11 _ rfl
  have c12 : w2.cell? ⟨w.heap.size, 12, none⟩ = some (.int .u64 0) := b2 12 _ rfl
  have HB2 := Lib.hid B2
  have HW2 := Lib.hid W2
  have HD2 := Lib.hid d2
  have HG2 := Lib.hid G2
  have HGL := Lib.hid hgl
  have HLEN := Lib.hid ex_len
  have hl1 : ∀ (a x : Int), a = 0 ∨ a = 1 → x ∈ ([a] : List Int) → 0 ≤ x ∧ x ≤ 4611686018427387903 := fun a x h hx => by simp at hx; subst hx; omega
  have hl2 : ∀ x ∈ ([0, 0] : List Int), 0 ≤ x ∧ x ≤ 4611686018427387903 := fun x hx => by simp at hx; subst hx; omega
  have hl9 : ∀ x ∈ ([0, 0, 0, 0, 0, 0, 0, 0, 0] : List Int), 0 ≤ x ∧ x ≤ 4611686018427387903 := fun x hx => by simp at hx; subst hx; omega
  have HL1 := Lib.hid hl1
  have HL2 := Lib.hid hl2
  have HL9 := Lib.hid hl9
  clear hcA B2 W2 d2 G2 hg b2 hgl hl1 hl2 hl9
  go_enter Tryz.func9, Tryz.ntmps9
  go_wp2_with fail
  refine (wnode_any HW2.out (by simp)).mono ?_
  rintro e w3 ⟨rfl, hw3, ho3⟩
  have hne0 : w.heap.size ≠ w.heap.size + 1 := by omega
  have hneg : g ≠ w.heap.size + 1 := by have := HGL.out; omega
  have HB3 := Lib.hid (only_blk HB2.out ho3 hne0)
  have HG3 := Lib.hid (only_blk HG2.out ho3 hneg)
  have HW3 := Lib.hid hw3
  have HD3 : Hid (Below w.heap.size w w3) := Lib.hid (HD2.out.trans (ho3.below HD2.out.size (fun i hi => by omega)))
  have e13 : w3.cell? ⟨w.heap.size, 13, none⟩ = some (.slice none 0 0) := HB3.out.at_ rfl
  have HNE := Lib.hid (And.intro hne0 hneg)
  clear hw3 ho3 c0 c1 c2 c3 c4 c5 c6 c7 c8 c9 c10 c11 c12 hne0 hneg
  go_wp2_with fail
  refine (counts_any (l := [0]) (HW3.out.alloc _) (fun x hx => HL1.out 0 x (.inl rfl) hx) (by simp) (by simp [zS_len]) (by simp) (by have := HW3.out.lt; omega) (row1 w3 0 _)).mono ?_
  rintro e w4 ⟨rfl, hw4, ho4⟩
  have ho4 := ((Only.refl (fun i => i = w.heap.size + 1) w3).alloc _).trans ho4 (fun i hi => .inl hi)
  have HB4 := Lib.hid (only_blk HB3.out ho4 HNE.out.1)
  have HG4 := Lib.hid (only_blk HG3.out ho4 HNE.out.2)
  have HW4 := Lib.hid hw4
  have HD4 : Hid (Below w.heap.size w w4) := Lib.hid (HD3.out.trans (ho4.below HD3.out.size (fun i hi => by omega)))
  have e13 : w4.cell? ⟨w.heap.size, 13, none⟩ = some (.slice none 0 0) := HB4.out.at_ rfl
  clear hw4 ho4
  go_wp2_with fail
  go_loopw [6, 24] (fun _ t wr => t = .int .i64 0 ∧ w4 = wr) (fun _ _ _ => 0)
  case atStart => exact ⟨rfl, rfl⟩
  case round =>
    obtain ⟨rfl, rfl⟩ := hrel
    have e14 : w4.cell? ⟨w.heap.size, 14, none⟩ = some (.int .i64 0) := HB4.out.at_ rfl
    have e15 : w4.cell? ⟨w.heap.size, 15, none⟩ = some (.int .i64 0) := HB4.out.at_ rfl
    have e16 : w4.cell? ⟨w.heap.size, 16, none⟩ = some (.int .i64 0) := HB4.out.at_ rfl
    have e17 : w4.cell? ⟨w.heap.size, 17, none⟩ = some (.int .i64 0) := HB4.out.at_ rfl
    have e18 : w4.cell? ⟨w.heap.size, 18, none⟩ = some (.int .i64 0) := HB4.out.at_ rfl
    have e19 : w4.cell? ⟨w.heap.size, 19, none⟩ = some (.int .i64 0) := HB4.out.at_ rfl
    have e20 : w4.cell? ⟨w.heap.size, 20, none⟩ = some (.int .i64 0) := HB4.out.at_ rfl
    have e21 : w4.cell? ⟨w.heap.size, 21, none⟩ = some (.int .i64 0) := HB4.out.at_ rfl
    have e22 : w4.cell? ⟨w.heap.size, 22, none⟩ = some (.int .i64 0) := HB4.out.at_ rfl
    go_wp2_with fail
    refine (numbers_any w4).mono ?_
    rintro e w5 ⟨gn, rfl, hgn, hgn4, hb5⟩
    have HB5 := Lib.hid (HB4.out.below hb5 HB4.out.lt)
    have HG5 := Lib.hid (HG4.out.below hb5 HG4.out.lt)
    have HW5 := Lib.hid (HW4.out.below hb5 HW4.out.lt)
    have HD5 := Lib.hid (keep_below hb5 HD4.out)
    have HGN := Lib.hid hgn
    have HGN4 := Lib.hid hgn4
    clear hgn hb5 hgn4 e13 e14 e15 e16 e17 e18 e19 e20 e21 e22
    go_wp2_with fail
    refine (counts_any (l := [0, 0, 0, 0, 0, 0, 0, 0, 0]) HW5.out HL9.out (by simp) (by simp [zS_len, intsL_len]) HGN.out.lt (by have := HGN4.out; have := HW4.out.lt; omega) (fun i x hx => HGN.out.at_ (nine_zero i x hx))).mono ?_
    rintro e w6 ⟨rfl, hw6, ho6⟩
    have HB6 := Lib.hid (only_blk HB5.out ho6 HNE.out.1)
    have HG6 := Lib.hid (only_blk HG5.out ho6 HNE.out.2)
    have HW6 := Lib.hid hw6
    have HD6 : Hid (Below w.heap.size w w6) := Lib.hid (HD5.out.trans (ho6.below HD5.out.size (fun i hi => by omega)))
    have e23 : w6.cell? ⟨w.heap.size, 23, none⟩ = some (.slice (some ⟨g, 0, none⟩) 1 1) := HB6.out.at_ rfl
    clear hw6 ho6
    go_wp2_with fail
    refine (counts_any (l := [1]) (HW6.out.alloc _) (fun x hx => HL1.out 1 x (.inr rfl) hx) (by simp) (by simp [zS_len, intsL_len]) (by simp) (by have := HW6.out.lt; omega) (row1 w6 1 _)).mono ?_
    rintro e w7 ⟨rfl, hw7, ho7⟩
    have ho7 := ((Only.refl (fun i => i = w.heap.size + 1) w6).alloc _).trans ho7 (fun i hi => .inl hi)
    have HB7 := Lib.hid (only_blk HB6.out ho7 HNE.out.1)
    have HG7 := Lib.hid (only_blk HG6.out ho7 HNE.out.2)
    have HW7 := Lib.hid hw7
    have HD7 : Hid (Below w.heap.size w w7) := Lib.hid (HD6.out.trans (ho7.below HD6.out.size (fun i hi => by omega)))
    have e23 : w7.cell? ⟨w.heap.size, 23, none⟩ = some (.slice (some ⟨g, 0, none⟩) 1 1) := HB7.out.at_ rfl
    clear hw7 ho7
    go_wp2_with fail
    obtain ⟨T, hT⟩ : ∃ T : List UInt8, T = (((([] ++ zS) ++ intsL [0]) ++ intsL [0, 0, 0, 0, 0, 0, 0, 0, 0]) ++ intsL [1]) ++ intsL [0, 0] := ⟨_, rfl⟩
    have hTL : T.length = 232 := by rw [hT]; exact HLEN.out
    go_loopw [8, 54] (fun _ t wr => (t = .int .i64 0 ∧ w7 = wr) ∨ (t = .int .i64 1 ∧ Blk wr (w.heap.size + 1) 79 #[str T, .int .i64 0] ∧ Below w.heap.size w wr)) (fun _ t _ => 1 - (RowKit.intOf t).toNat)
    case atStart => exact .inl ⟨rfl, rfl⟩
    case round =>
      rcases hrel with ⟨rfl, rfl⟩ | ⟨rfl, hwr, hdr⟩
      · have q0 : w7.cell? ⟨g, 0, none⟩ = some (.int .i64 0) := HG7.out.at_ rfl
        have q1 : w7.cell? ⟨g, 1, none⟩ = some (.int .i64 0) := HG7.out.at_ rfl
        have HT := Lib.hid hT
        clear hT
        go_wp2_with fail
        have hrow := row2 (w7.alloc (.cells #[.int .i64 0, .int .i64 0] 61)) 0 0 3
        rw [World.size_alloc] at hrow
        refine (counts_any (l := [0, 0]) (g := w7.heap.size + 1) ((HW7.out.alloc _).alloc _) HL2.out (by simp) (by simp [zS_len, intsL_len]) (by simp) (by have := HW7.out.lt; omega) hrow).mono ?_
        rintro e w9 ⟨rfl, hw9, ho9⟩
        have ho9 := (((Only.refl (fun i => i = w.heap.size + 1) w7).alloc _).alloc _).trans ho9 (fun i hi => .inl hi)
        have HW9 : Hid (Blk w9 (w.heap.size + 1) 79 #[str T, .int .i64 0]) := Lib.hid (by rw [HT.out]; exact hw9)
        have HD9 : Hid (Below w.heap.size w w9) := Lib.hid (HD7.out.trans (ho9.below HD7.out.size (fun i hi => by omega)))
        clear hw9 ho9 hrow q0 q1
        go_wp2_with fail
        go_roundw
        case rel => exact .inr ⟨by go_num, HW9.out, HD9.out⟩
        case measure => simp [RowKit.intOf]
      · have y0 := hwr.at_ (i := 0) rfl
        have y1 := hwr.at_ (i := 1) rfl
        have HDR := Lib.hid hdr
        clear hwr hdr hT
        go_wp2_with fail
        go_ret2
        exact ⟨T, hTL, rfl, HDR.out⟩

set_option maxRecDepth 20000 in
theorem mawake_any (w : World) : Calls Tryz.prog 5 #[] w fun e w' => e = .returned (.bool true) ∧ Below w.heap.size w w' := by
  have HB := Lib.hid (bytes_ex (Blk.new w 61 #[.int .i64 0, .int .i64 0]))
  go_enter Tryz.func5, Tryz.ntmps5
  go_wp2_with fail
  refine HB.out.mono ?_
  rintro e w1 ⟨t, ht, rfl, hb⟩
  have HB1 := Lib.hid (keep_below hb (keep_alloc (Below.refl _ w) _))
  have hl : (ByteArray.mk t.toArray).size = 232 := by simp [ByteArray.size, ht]
  clear hb HB
  go_wp2_with fail
  go_ret
  exact ⟨rfl, HB1.out⟩
end Go.Proofs.YtidmbibpoldgcaaGreatDoor
