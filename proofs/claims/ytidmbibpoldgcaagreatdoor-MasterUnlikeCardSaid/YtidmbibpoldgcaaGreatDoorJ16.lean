/-
  Layer 17: the reader of a node.
  Layer 17: the reader's calls, by what is read; what Read has in memory on its way.
  Layer 17: master.Same of unlike ones; whole rows loaded.
-/
import Derived.Test.YtidmbibpoldgcaaGreatDoorJ15
import Derived.Test.YtidmbibpoldgcaaGreatDoorJ11
import Derived.Test.YtidmbibpoldgcaaGreatDoorJ13
namespace Go.Proofs.YtidmbibpoldgcaaGreatDoor
set_option linter.unusedVariables false
set_option linter.unusedSimpArgs false
open Go.RowKit

def nodeV (x : Int × PtrD) : Value := .agg #[.int .i64 x.1, .int .i64 x.2.ag, .int .i64 x.2.aa, .int .i64 x.2.bg, .int .i64 x.2.ba, .bool x.2.two, .int .i64 x.2.size, .int .i64 x.2.level, .int .i64 x.2.birth, .int .u64 x.2.s0, .int .u64 x.2.s1, .int .u64 x.2.s2, .int .u64 x.2.s3]
theorem RdrAt.same {w w' : World} {r b : Nat} {l : List UInt8} {p : Nat} {e : Int} (h : RdrAt w r b l p e) (hr : w'.heap[r]? = w.heap[r]?) (hb : w'.heap[b]? = w.heap[b]?) : RdrAt w' r b l p e := ⟨hr.trans h.own, ⟨hb.trans h.rd.1, h.rd.2⟩, h.ne⟩
theorem only_sets_new {S : Nat → Prop} {w w' : World} {g : Nat} (vs : List Value) (h : Only S w w') (hg : w.heap.size ≤ g) : Only S w (w'.setCells g 0 vs) :=
  have q : Below 0 w' (w'.setCells g 0 vs) := below_sets _ _ (Below.refl _ _) (Nat.zero_le _)
  ⟨q.os.trans h.os, q.tape.trans h.tape, q.output.trans h.output, by rw [sets_size]; exact h.size, fun i hi hn => (sets_far vs 0 w' i trivial (by omega)).trans (h.block i hi hn)⟩
theorem blk_only {S : Nat → Prop} {w w' : World} {i : Nat} {t : TypeId} {cs : Array Value} (h : Blk w i t cs) (ho : Only S w w') (hn : ¬ S i) : Blk w' i t cs := (ho.block i h.lt hn).trans h
set_option maxRecDepth 20000 in
theorem rnode_any {w : World} {r b p : Nat} {l : List UInt8} {e : Int} (h : RdrAt w r b l p e) :
    Calls Tryz.prog 27 #[.pointer (some ⟨r, 0, none⟩)] w fun x w' => x = .returned (nodeV (rkX l p e).1) ∧ RdrAt w' r b l (rkP l p e) (rkX l p e).2 ∧ Only (fun i => i = r ∨ i = b) w w' := by
  obtain ⟨w1, hw1⟩ : ∃ x, w.alloc (.cells #[.int .i64 0, .int .i64 0, .int .i64 0, .int .i64 0, .int .i64 0, .bool false, .int .i64 0, .int .i64 0, .int .i64 0, .int .u64 0, .int .u64 0, .int .u64 0, .int .u64 0] 33) = x := ⟨_, rfl⟩
  have h1 : RdrAt w1 r b l p e := by rw [← hw1]; exact h.below (keep_alloc (Below.refl _ _) _)
  have N1 : Blk w1 w.heap.size 33 #[.int .i64 0, .int .i64 0, .int .i64 0, .int .i64 0, .int .i64 0, .bool false, .int .i64 0, .int .i64 0, .int .i64 0, .int .u64 0, .int .u64 0, .int .u64 0, .int .u64 0] := by rw [← hw1]; exact Blk.new _ _ _
  have O1 : Only (fun i => i = r ∨ i = b) w w1 := by rw [← hw1]; exact (Only.refl _ _).alloc _
  have H := Lib.hid h1
  have HN := Lib.hid N1
  have HO := Lib.hid O1
  have HR := Lib.hid (And.intro h.own.lt h.rd.lt)
  have c1 : w1.cell? ⟨r, 1, none⟩ = some (.int .i64 e) := h1.own.at_ rfl
  have c0 : w1.cell? ⟨r, 0, none⟩ = some (.pointer (some ⟨b, 0, none⟩)) := h1.own.at_ rfl
  have hi33 : (Tryz.prog.info? 33).map (·.size) = some (#[.int .i64 0, .int .i64 0, .int .i64 0, .int .i64 0, .int .i64 0, .bool false, .int .i64 0, .int .i64 0, .int .i64 0, .int .u64 0, .int .u64 0, .int .u64 0, .int .u64 0] : Array Value).size := by kernel_rfl
  clear h h1 N1 O1
  by_cases he : e = 0
  · subst he
    go_enter Tryz.func27, Tryz.ntmps27
    have HRD : Hid (tkErr l p 128 = 0 → rkX l p 0 = (if (rnD (tkStr l p 128)).2.2.1 then (((rnD (tkStr l p 128)).1, (rnD (tkStr l p 128)).2.1), failE 0 (rnD (tkStr l p 128)).2.2.2) else (((rnD (tkStr l p 128)).1, (rnD (tkStr l p 128)).2.1), failE (failE 0 (rnD (tkStr l p 128)).2.2.2) 3))) := Lib.hid fun h => by unfold rkX; rw [if_pos rfl, if_pos h]
    have HRE : Hid (tkErr l p 128 ≠ 0 → rkX l p 0 = ((0, ptrZ), tkErr l p 128)) := Lib.hid fun h => by unfold rkX; rw [if_pos rfl, if_neg h]
    have HRP : Hid (rkP l p 0 = tkPos l p 128) := Lib.hid (if_pos rfl)
    have HTL : Hid ((tkStr l p 128).length ≤ 128) := Lib.hid (by
      unfold tkStr; split
      · exact List.length_take_le _ _
      · simp)
    go_wp2_with fail
    refine (take_any b p l 128 w1 H.out.rd (by omega)).mono ?_
    rintro x w2 ⟨rfl, hR, hG⟩
    have HR2 : Hid (RdrAt w2 r b l (tkPos l p 128) 0) := Lib.hid ⟨H.out.own.grown hG H.out.ne, hR, H.out.ne⟩
    have HN2 : Hid (Blk w2 w.heap.size 33 #[.int .i64 0, .int .i64 0, .int .i64 0, .int .i64 0, .int .i64 0, .bool false, .int .i64 0, .int .i64 0, .int .i64 0, .int .u64 0, .int .u64 0, .int .u64 0, .int .u64 0]) := Lib.hid (HN.out.grown hG (by have := HR.out; omega))
    have HO2 : Hid (Only (fun i => i = r ∨ i = b) w w2) := Lib.hid (HO.out.trans (Only.of_grown (S := fun i => i = r ∨ i = b) hG (.inr rfl)) (fun i hi => .inl hi))
    clear hR hG c0 c1 H HN HO hw1
    generalize tkErr l p 128 = te at *
    generalize tkStr l p 128 = ts at *
    generalize tkPos l p 128 = tp at *
    go_wp2_with fail
    refine (rfail_any te HR2.out).mono ?_
    rintro x w3 ⟨rfl, hR, hO⟩
    have hfe : failE 0 te = te := if_pos rfl
    rw [hfe] at hR
    clear hfe
    have HR3 := Lib.hid hR
    have HN3 := Lib.hid (blk_only HN2.out hO (by have := HR.out; omega))
    have HO3 := Lib.hid (HO2.out.trans hO (fun i hi => .inl hi))
    clear hR hO HR2 HN2 HO2
    have q1 : w3.cell? ⟨r, 1, none⟩ = some (.int .i64 te) := HR3.out.own.at_ rfl
    by_cases hte : te = 0
    · subst hte
      have HX := Lib.hid (HRD.out rfl)
      clear HRD HRE
      go_wp2_with fail
      refine (rn_any ts w3 (by have := HTL.out; omega)).mono ?_
      rintro x w4 ⟨rfl, hb4⟩
      have HR4 := Lib.hid (HR3.out.below hb4)
      have HN4 := Lib.hid (HN3.out.below hb4 HN3.out.lt)
      have HO4 := Lib.hid (HO3.out.then_below hb4)
      clear hb4 q1 HR3 HN3 HO3
      generalize rnD ts = y at *
      obtain ⟨n, q, ok, er⟩ := y
      simp only at HX
      simp only [rnV]
      go_wp2_with fail
      have N4 : Hid (Blk (w4.alloc (.cells #[.int .i64 n, .int .i64 q.ag, .int .i64 q.aa, .int .i64 q.bg, .int .i64 q.ba, .bool q.two, .int .i64 q.size, .int .i64 q.level, .int .i64 q.birth, .int .u64 q.s0, .int .u64 q.s1, .int .u64 q.s2, .int .u64 q.s3] 33)) w4.heap.size 33 #[.int .i64 n, .int .i64 q.ag, .int .i64 q.aa, .int .i64 q.bg, .int .i64 q.ba, .bool q.two, .int .i64 q.size, .int .i64 q.level, .int .i64 q.birth, .int .u64 q.s0, .int .u64 q.s1, .int .u64 q.s2, .int .u64 q.s3]) := Lib.hid (Blk.new _ _ _)
      refine (rfail_any er (HR4.out.below (keep_alloc (Below.refl _ _) _))).mono ?_
      rintro x w5 ⟨rfl, hR, hO⟩
      have hs4 : r < w4.heap.size ∧ b < w4.heap.size ∧ w.heap.size < w4.heap.size := ⟨HR4.out.own.lt, HR4.out.rd.lt, HN4.out.lt⟩
      have HS4 := Lib.hid hs4
      have HR5 := Lib.hid hR
      have HM5 := Lib.hid (blk_only N4.out hO (by omega))
      have HN5 := Lib.hid (blk_only (HN4.out.alloc _) hO (by have := HR.out; omega))
      have HO5 := Lib.hid ((HO4.out.alloc (.cells #[.int .i64 n, .int .i64 q.ag, .int .i64 q.aa, .int .i64 q.bg, .int .i64 q.ba, .bool q.two, .int .i64 q.size, .int .i64 q.level, .int .i64 q.birth, .int .u64 q.s0, .int .u64 q.s1, .int .u64 q.s2, .int .u64 q.s3] 33)).trans hO (fun i hi => .inl hi))
      clear hR hO hs4
      cases ok with
      | true =>
        have HX : Hid (rkX l p 0 = ((n, q), failE 0 er)) := Lib.hid (by rw [HX.out]; rfl)
        have K5 := HM5.out
        have hi33n : (Tryz.prog.info? 33).map (·.size) = some (#[.int .i64 n, .int .i64 q.ag, .int .i64 q.aa, .int .i64 q.bg, .int .i64 q.ba, .bool q.two, .int .i64 q.size, .int .i64 q.level, .int .i64 q.birth, .int .u64 q.s0, .int .u64 q.s1, .int .u64 q.s2, .int .u64 q.s3] : Array Value).size := by kernel_rfl
        have h1n : (#[.int .i64 n, .int .i64 q.ag, .int .i64 q.aa, .int .i64 q.bg, .int .i64 q.ba, .bool q.two, .int .i64 q.size, .int .i64 q.level, .int .i64 q.birth, .int .u64 q.s0, .int .u64 q.s1, .int .u64 q.s2, .int .u64 q.s3] : Array Value).all (·.oneCell') = true := by kernel_rfl
        have hth : w5.there w.heap.size 0 (#[.int .i64 n, .int .i64 q.ag, .int .i64 q.aa, .int .i64 q.bg, .int .i64 q.ba, .bool q.two, .int .i64 q.size, .int .i64 q.level, .int .i64 q.birth, .int .u64 q.s0, .int .u64 q.s1, .int .u64 q.s2, .int .u64 q.s3] : Array Value).size := HN5.out.there (Nat.le_refl _)
        go_wp2_with (first
          | ((with_reducible refine wpList_load_want ?qw 33 (.tmp 5) ?q2 w4.heap.size ?q3 33 #[.int .i64 n, .int .i64 q.ag, .int .i64 q.aa, .int .i64 q.bg, .int .i64 q.ba, .bool q.two, .int .i64 q.size, .int .i64 q.level, .int .i64 q.birth, .int .u64 q.s0, .int .u64 q.s1, .int .u64 q.s2, .int .u64 q.s3] _ K5 Tryz.underlying33 rfl hi33n ?_); (case q2 => rfl); (case q3 => rfl); (case qw => rfl); simp only [Act.put, List.setIfInBounds_toArray, List.set_cons_zero, List.set_cons_succ])
          | ((with_reducible refine wpList_store_mid ?a1 33 (.tmp 2) (.tmp 43) ?a2 w.heap.size 0 #[.int .i64 n, .int .i64 q.ag, .int .i64 q.aa, .int .i64 q.bg, .int .i64 q.ba, .bool q.two, .int .i64 q.size, .int .i64 q.level, .int .i64 q.birth, .int .u64 q.s0, .int .u64 q.s1, .int .u64 q.s2, .int .u64 q.s3] ?a3 ?a4 hth hi33n h1n ?_); (case a2 => rfl); (case a3 => rfl); (case a4 => rfl); (case a1 => rfl); simp only [Act.put, List.setIfInBounds_toArray, List.set_cons_zero, List.set_cons_succ]))
        have HRES : Hid (Blk (w5.setCells w.heap.size 0 (#[.int .i64 n, .int .i64 q.ag, .int .i64 q.aa, .int .i64 q.bg, .int .i64 q.ba, .bool q.two, .int .i64 q.size, .int .i64 q.level, .int .i64 q.birth, .int .u64 q.s0, .int .u64 q.s1, .int .u64 q.s2, .int .u64 q.s3] : Array Value).toList) w.heap.size 33 #[.int .i64 n, .int .i64 q.ag, .int .i64 q.aa, .int .i64 q.bg, .int .i64 q.ba, .bool q.two, .int .i64 q.size, .int .i64 q.level, .int .i64 q.birth, .int .u64 q.s0, .int .u64 q.s1, .int .u64 q.s2, .int .u64 q.s3]) := Lib.hid (HN5.out.putAll #[.int .i64 n, .int .i64 q.ag, .int .i64 q.aa, .int .i64 q.bg, .int .i64 q.ba, .bool q.two, .int .i64 q.size, .int .i64 q.level, .int .i64 q.birth, .int .u64 q.s0, .int .u64 q.s1, .int .u64 q.s2, .int .u64 q.s3] rfl)
        refine bodyPost_ret (v := .agg #[.int .i64 n, .int .i64 q.ag, .int .i64 q.aa, .int .i64 q.bg, .int .i64 q.ba, .bool q.two, .int .i64 q.size, .int .i64 q.level, .int .i64 q.birth, .int .u64 q.s0, .int .u64 q.s1, .int .u64 q.s2, .int .u64 q.s3]) (results_cell_row rfl _ _ w.heap.size 33 #[.int .i64 n, .int .i64 q.ag, .int .i64 q.aa, .int .i64 q.bg, .int .i64 q.ba, .bool q.two, .int .i64 q.size, .int .i64 q.level, .int .i64 q.birth, .int .u64 q.s0, .int .u64 q.s1, .int .u64 q.s2, .int .u64 q.s3] (0, 0) _ rfl HRES.out Tryz.underlying33 rfl hi33n) rfl ⟨by rw [HX.out]; rfl, ?_, ?_⟩
        · rw [HRP.out, HX.out]
          exact HR5.out.same (sets_far _ _ _ _ trivial (by have := HR.out; omega)) (sets_far _ _ _ _ trivial (by have := HR.out; omega))
        · exact only_sets_new _ HO5.out (Nat.le_refl _)
      | false =>
        have HX : Hid (rkX l p 0 = ((n, q), failE (failE 0 er) 3)) := Lib.hid (by rw [HX.out]; rfl)
        go_wp2_with fail
        refine (rfail_any 3 HR5.out).mono ?_
        rintro x w6 ⟨rfl, hR, hO⟩
        have HR6 := Lib.hid hR
        have HM6 := Lib.hid (blk_only HM5.out hO (by have := HS4.out; omega))
        have HN6 := Lib.hid (blk_only HN5.out hO (by have := HR.out; omega))
        have HO6 := Lib.hid (HO5.out.trans hO (fun i hi => .inl hi))
        clear hR hO
        have K5 := HM6.out
        have hi33n : (Tryz.prog.info? 33).map (·.size) = some (#[.int .i64 n, .int .i64 q.ag, .int .i64 q.aa, .int .i64 q.bg, .int .i64 q.ba, .bool q.two, .int .i64 q.size, .int .i64 q.level, .int .i64 q.birth, .int .u64 q.s0, .int .u64 q.s1, .int .u64 q.s2, .int .u64 q.s3] : Array Value).size := by kernel_rfl
        have h1n : (#[.int .i64 n, .int .i64 q.ag, .int .i64 q.aa, .int .i64 q.bg, .int .i64 q.ba, .bool q.two, .int .i64 q.size, .int .i64 q.level, .int .i64 q.birth, .int .u64 q.s0, .int .u64 q.s1, .int .u64 q.s2, .int .u64 q.s3] : Array Value).all (·.oneCell') = true := by kernel_rfl
        have hth : w6.there w.heap.size 0 (#[.int .i64 n, .int .i64 q.ag, .int .i64 q.aa, .int .i64 q.bg, .int .i64 q.ba, .bool q.two, .int .i64 q.size, .int .i64 q.level, .int .i64 q.birth, .int .u64 q.s0, .int .u64 q.s1, .int .u64 q.s2, .int .u64 q.s3] : Array Value).size := HN6.out.there (Nat.le_refl _)
        go_wp2_with (first
          | ((with_reducible refine wpList_load_want ?qw 33 (.tmp 5) ?q2 w4.heap.size ?q3 33 #[.int .i64 n, .int .i64 q.ag, .int .i64 q.aa, .int .i64 q.bg, .int .i64 q.ba, .bool q.two, .int .i64 q.size, .int .i64 q.level, .int .i64 q.birth, .int .u64 q.s0, .int .u64 q.s1, .int .u64 q.s2, .int .u64 q.s3] _ K5 Tryz.underlying33 rfl hi33n ?_); (case q2 => rfl); (case q3 => rfl); (case qw => rfl); simp only [Act.put, List.setIfInBounds_toArray, List.set_cons_zero, List.set_cons_succ])
          | ((with_reducible refine wpList_store_mid ?a1 33 (.tmp 2) (.tmp 43) ?a2 w.heap.size 0 #[.int .i64 n, .int .i64 q.ag, .int .i64 q.aa, .int .i64 q.bg, .int .i64 q.ba, .bool q.two, .int .i64 q.size, .int .i64 q.level, .int .i64 q.birth, .int .u64 q.s0, .int .u64 q.s1, .int .u64 q.s2, .int .u64 q.s3] ?a3 ?a4 hth hi33n h1n ?_); (case a2 => rfl); (case a3 => rfl); (case a4 => rfl); (case a1 => rfl); simp only [Act.put, List.setIfInBounds_toArray, List.set_cons_zero, List.set_cons_succ]))
        have HRES : Hid (Blk (w6.setCells w.heap.size 0 (#[.int .i64 n, .int .i64 q.ag, .int .i64 q.aa, .int .i64 q.bg, .int .i64 q.ba, .bool q.two, .int .i64 q.size, .int .i64 q.level, .int .i64 q.birth, .int .u64 q.s0, .int .u64 q.s1, .int .u64 q.s2, .int .u64 q.s3] : Array Value).toList) w.heap.size 33 #[.int .i64 n, .int .i64 q.ag, .int .i64 q.aa, .int .i64 q.bg, .int .i64 q.ba, .bool q.two, .int .i64 q.size, .int .i64 q.level, .int .i64 q.birth, .int .u64 q.s0, .int .u64 q.s1, .int .u64 q.s2, .int .u64 q.s3]) := Lib.hid (HN6.out.putAll #[.int .i64 n, .int .i64 q.ag, .int .i64 q.aa, .int .i64 q.bg, .int .i64 q.ba, .bool q.two, .int .i64 q.size, .int .i64 q.level, .int .i64 q.birth, .int .u64 q.s0, .int .u64 q.s1, .int .u64 q.s2, .int .u64 q.s3] rfl)
        refine bodyPost_ret (v := .agg #[.int .i64 n, .int .i64 q.ag, .int .i64 q.aa, .int .i64 q.bg, .int .i64 q.ba, .bool q.two, .int .i64 q.size, .int .i64 q.level, .int .i64 q.birth, .int .u64 q.s0, .int .u64 q.s1, .int .u64 q.s2, .int .u64 q.s3]) (results_cell_row rfl _ _ w.heap.size 33 #[.int .i64 n, .int .i64 q.ag, .int .i64 q.aa, .int .i64 q.bg, .int .i64 q.ba, .bool q.two, .int .i64 q.size, .int .i64 q.level, .int .i64 q.birth, .int .u64 q.s0, .int .u64 q.s1, .int .u64 q.s2, .int .u64 q.s3] (0, 0) _ rfl HRES.out Tryz.underlying33 rfl hi33n) rfl ⟨by rw [HX.out]; rfl, ?_, ?_⟩
        · rw [HRP.out, HX.out]
          exact HR6.out.same (sets_far _ _ _ _ trivial (by have := HR.out; omega)) (sets_far _ _ _ _ trivial (by have := HR.out; omega))
        · exact only_sets_new _ HO6.out (Nat.le_refl _)
    · have hbn : (te == 0) = false := beq_eq_false_iff_ne.2 hte
      have hbe : (te != 0) = true := bne_iff_ne.2 hte
      have HX := Lib.hid (HRE.out hte)
      have h1c : (#[.int .i64 0, .int .i64 0, .int .i64 0, .int .i64 0, .int .i64 0, .bool false, .int .i64 0, .int .i64 0, .int .i64 0, .int .u64 0, .int .u64 0, .int .u64 0, .int .u64 0] : Array Value).all (·.oneCell') = true := by kernel_rfl
      have hth : w3.there w.heap.size 0 (#[.int .i64 0, .int .i64 0, .int .i64 0, .int .i64 0, .int .i64 0, .bool false, .int .i64 0, .int .i64 0, .int .i64 0, .int .u64 0, .int .u64 0, .int .u64 0, .int .u64 0] : Array Value).size := HN3.out.there (Nat.le_refl _)
      clear HRD HRE hte
      go_wp2_with ((with_reducible refine wpList_store_mid ?a1 33 (.tmp 2) (.tmp 29) ?a2 w.heap.size 0 #[.int .i64 0, .int .i64 0, .int .i64 0, .int .i64 0, .int .i64 0, .bool false, .int .i64 0, .int .i64 0, .int .i64 0, .int .u64 0, .int .u64 0, .int .u64 0, .int .u64 0] ?a3 ?a4 hth hi33 h1c ?_); (case a2 => rfl); (case a3 => rfl); (case a4 => rfl); (case a1 => rfl); simp only [Act.put, List.setIfInBounds_toArray, List.set_cons_zero, List.set_cons_succ])
      have HRES : Hid (Blk (w3.setCells w.heap.size 0 (#[.int .i64 0, .int .i64 0, .int .i64 0, .int .i64 0, .int .i64 0, .bool false, .int .i64 0, .int .i64 0, .int .i64 0, .int .u64 0, .int .u64 0, .int .u64 0, .int .u64 0] : Array Value).toList) w.heap.size 33 #[.int .i64 0, .int .i64 0, .int .i64 0, .int .i64 0, .int .i64 0, .bool false, .int .i64 0, .int .i64 0, .int .i64 0, .int .u64 0, .int .u64 0, .int .u64 0, .int .u64 0]) := Lib.hid (HN3.out.putAll #[.int .i64 0, .int .i64 0, .int .i64 0, .int .i64 0, .int .i64 0, .bool false, .int .i64 0, .int .i64 0, .int .i64 0, .int .u64 0, .int .u64 0, .int .u64 0, .int .u64 0] rfl)
      refine bodyPost_ret (v := .agg #[.int .i64 0, .int .i64 0, .int .i64 0, .int .i64 0, .int .i64 0, .bool false, .int .i64 0, .int .i64 0, .int .i64 0, .int .u64 0, .int .u64 0, .int .u64 0, .int .u64 0]) (results_cell_row rfl _ _ w.heap.size 33 #[.int .i64 0, .int .i64 0, .int .i64 0, .int .i64 0, .int .i64 0, .bool false, .int .i64 0, .int .i64 0, .int .i64 0, .int .u64 0, .int .u64 0, .int .u64 0, .int .u64 0] (0, 0) _ rfl HRES.out Tryz.underlying33 rfl hi33) rfl ⟨by rw [HX.out]; rfl, ?_, ?_⟩
      · rw [HRP.out, HX.out]
        exact HR3.out.same (sets_far _ _ _ _ trivial (by have := HR.out; omega)) (sets_far _ _ _ _ trivial (by have := HR.out; omega))
      · exact only_sets_new _ HO3.out (Nat.le_refl _)
  · have hbe : (e == 0) = false := beq_eq_false_iff_ne.2 he
    have hbn : (e != 0) = true := bne_iff_ne.2 he
    have hV : Hid (rkP l p e = p ∧ (rkX l p e).2 = e ∧ nodeV (rkX l p e).1 = .agg #[.int .i64 0, .int .i64 0, .int .i64 0, .int .i64 0, .int .i64 0, .bool false, .int .i64 0, .int .i64 0, .int .i64 0, .int .u64 0, .int .u64 0, .int .u64 0, .int .u64 0]) := Lib.hid (by unfold rkP rkX; rw [if_neg he, if_neg he]; exact ⟨rfl, rfl, rfl⟩)
    have h1c : (#[.int .i64 0, .int .i64 0, .int .i64 0, .int .i64 0, .int .i64 0, .bool false, .int .i64 0, .int .i64 0, .int .i64 0, .int .u64 0, .int .u64 0, .int .u64 0, .int .u64 0] : Array Value).all (·.oneCell') = true := by kernel_rfl
    have hth : w1.there w.heap.size 0 (#[.int .i64 0, .int .i64 0, .int .i64 0, .int .i64 0, .int .i64 0, .bool false, .int .i64 0, .int .i64 0, .int .i64 0, .int .u64 0, .int .u64 0, .int .u64 0, .int .u64 0] : Array Value).size := HN.out.there (Nat.le_refl _)
    clear he
    go_enter Tryz.func27, Tryz.ntmps27
    go_wp2_with ((with_reducible refine wpList_store_mid ?a1 33 (.tmp 2) (.tmp 12) ?a2 w.heap.size 0 #[.int .i64 0, .int .i64 0, .int .i64 0, .int .i64 0, .int .i64 0, .bool false, .int .i64 0, .int .i64 0, .int .i64 0, .int .u64 0, .int .u64 0, .int .u64 0, .int .u64 0] ?a3 ?a4 hth hi33 h1c ?_); (case a2 => rfl); (case a3 => rfl); (case a4 => rfl); (case a1 => rfl); simp only [Act.put, List.setIfInBounds_toArray, List.set_cons_zero, List.set_cons_succ])
    have HRES : Hid (Blk (w1.setCells w.heap.size 0 (#[.int .i64 0, .int .i64 0, .int .i64 0, .int .i64 0, .int .i64 0, .bool false, .int .i64 0, .int .i64 0, .int .i64 0, .int .u64 0, .int .u64 0, .int .u64 0, .int .u64 0] : Array Value).toList) w.heap.size 33 #[.int .i64 0, .int .i64 0, .int .i64 0, .int .i64 0, .int .i64 0, .bool false, .int .i64 0, .int .i64 0, .int .i64 0, .int .u64 0, .int .u64 0, .int .u64 0, .int .u64 0]) := Lib.hid (HN.out.putAll #[.int .i64 0, .int .i64 0, .int .i64 0, .int .i64 0, .int .i64 0, .bool false, .int .i64 0, .int .i64 0, .int .i64 0, .int .u64 0, .int .u64 0, .int .u64 0, .int .u64 0] rfl)
    refine bodyPost_ret (v := .agg #[.int .i64 0, .int .i64 0, .int .i64 0, .int .i64 0, .int .i64 0, .bool false, .int .i64 0, .int .i64 0, .int .i64 0, .int .u64 0, .int .u64 0, .int .u64 0, .int .u64 0]) (results_cell_row rfl _ _ w.heap.size 33 #[.int .i64 0, .int .i64 0, .int .i64 0, .int .i64 0, .int .i64 0, .bool false, .int .i64 0, .int .i64 0, .int .i64 0, .int .u64 0, .int .u64 0, .int .u64 0, .int .u64 0] (0, 0) _ rfl HRES.out Tryz.underlying33 rfl hi33) rfl ⟨by rw [hV.out.2.2], ?_, ?_⟩
    · rw [hV.out.1, hV.out.2.1]
      exact H.out.same (sets_far _ _ _ _ trivial (by have := HR.out; omega)) (sets_far _ _ _ _ trivial (by have := HR.out; omega))
    · exact only_sets_new _ HO.out (Nat.le_refl _)
end Go.Proofs.YtidmbibpoldgcaaGreatDoor

namespace Go.Proofs.YtidmbibpoldgcaaGreatDoor
set_option linter.unusedVariables false
set_option linter.unusedSimpArgs false
open Go.RowKit

theorem results_cell_slot {P : Program} {fn : Func} {p q : Tmp} {ty : TypeId} (h : fn.results = #[.cell p ty, .tmp q]) (tmps : Array Value) (w : World) (g : Nat) (t : TypeId) (cs : Array Value) (fr : Nat × Nat) (d : TypeDesc)
    (hp : tmps.getD p undef = .pointer (some ⟨g, 0, none⟩)) (hg : w.heap[g]? = some (.cells cs t fr))
    (hu : P.underlying ty = some d) (hd : (match d with | .struct _ | .array _ _ => true | _ => false) = true) (hi : (P.info? ty).map (·.size) = some cs.size) (v : Value) (hv : tmps.getD q undef = v) :
    (results fn tmps).run P w = .ok (.tuple #[.agg cs, v]) w := by
  have hp' : tmps[p]?.getD undef = .pointer (some ⟨g, 0, none⟩) := by simpa using hp
  have hv' : tmps[q]?.getD undef = v := by simpa using hv
  simp [results, h, hp', hv', asAddr, run_loadVar_row w g t ty cs fr d hg hu hd hi]

theorem rcV_bd (l : List UInt8) (p : Nat) (e most : Int) (h : 0 ≤ most) : 0 ≤ rcV l p e most ∧ rcV l p e most ≤ most := by
  unfold rcV
  split
  · split
    · exact ⟨Int.le_refl 0, h⟩
    · exact ⟨by omega, by omega⟩
  · exact ⟨Int.le_refl 0, h⟩
theorem itR_len {α : Type} (f : RS → α × RS) : ∀ (k : Nat) (q : RS), (itR f k q).1.length = k
  | 0, _ => rfl
  | k + 1, q => by
    show ((itR f k q).1 ++ [_]).length = _
    rw [List.length_append, itR_len f k q]; rfl

/-- What a call of count answers, at any reader of this place. -/
def CallC (l : List UInt8) (most : Int) (p : Nat) (e a : Int) (p' : Nat) (e' : Int) : Prop :=
  ∀ (W : World) (r b : Nat), RdrAt W r b l p e → Calls Tryz.prog 28 #[.pointer (some ⟨r, 0, none⟩), .int .i64 most] W fun x w' => x = .returned (.int .i64 a) ∧ RdrAt w' r b l p' e' ∧ Only (fun i => i = r ∨ i = b) W w'
def CallK (l : List UInt8) (p : Nat) (e n : Int) (q : PtrD) (p' : Nat) (e' : Int) : Prop :=
  ∀ (W : World) (r b : Nat), RdrAt W r b l p e → Calls Tryz.prog 27 #[.pointer (some ⟨r, 0, none⟩)] W fun x w' => x = .returned (.agg #[.int .i64 n, .int .i64 q.ag, .int .i64 q.aa, .int .i64 q.bg, .int .i64 q.ba, .bool q.two, .int .i64 q.size, .int .i64 q.level, .int .i64 q.birth, .int .u64 q.s0, .int .u64 q.s1, .int .u64 q.s2, .int .u64 q.s3]) ∧ RdrAt w' r b l p' e' ∧ Only (fun i => i = r ∨ i = b) W w'
theorem c_call (l : List UInt8) (most : Int) (hm : 0 ≤ most) (p : Nat) (e : Int) : ∃ a p' e', rC l most (p, e) = (a, (p', e')) ∧ CallC l most p e a p' e' ∧ 0 ≤ a ∧ a ≤ most :=
  ⟨_, _, _, rfl, fun _ _ _ h => rcount_any most h, rcV_bd l p e most hm⟩
theorem k_call (l : List UInt8) (p : Nat) (e : Int) : ∃ n q p' e', rK l (p, e) = ((n, q), (p', e')) ∧ CallK l p e n q p' e' :=
  ⟨_, _, _, _, rfl, fun _ _ _ h => rnode_any h⟩
theorem sn_calls (l : List UInt8) (p : Nat) (e : Int) : ∃ a1 p1 e1 a2 p2 e2 n q p3 e3, rSn l (p, e) = (⟨a1, a2, n, q⟩, (p3, e3)) ∧ CallC l 4611686018427387903 p e a1 p1 e1 ∧ CallC l 4611686018427387903 p1 e1 a2 p2 e2 ∧ CallK l p2 e2 n q p3 e3 := by
  obtain ⟨a1, p1, e1, h1, c1, _⟩ := c_call l bigC (by decide) p e
  obtain ⟨a2, p2, e2, h2, c2, _⟩ := c_call l bigC (by decide) p1 e1
  obtain ⟨n, q, p3, e3, h3, c3⟩ := k_call l p2 e2
  refine ⟨a1, p1, e1, a2, p2, e2, n, q, p3, e3, ?_, c1, c2, c3⟩
  unfold rSn bindR
  rw [h1]
  dsimp only
  rw [h2]
  dsimp only
  rw [h3]
  rfl
theorem st_calls (l : List UInt8) (p : Nat) (e : Int) : ∃ a1 p1 e1 a2 p2 e2, rSt l (p, e) = ((a1, a2), (p2, e2)) ∧ CallC l 4611686018427387903 p e a1 p1 e1 ∧ CallC l 4611686018427387903 p1 e1 a2 p2 e2 := by
  obtain ⟨a1, p1, e1, h1, c1, _⟩ := c_call l bigC (by decide) p e
  obtain ⟨a2, p2, e2, h2, c2, _⟩ := c_call l bigC (by decide) p1 e1
  refine ⟨a1, p1, e1, a2, p2, e2, ?_, c1, c2⟩
  unfold rSt bindR
  rw [h1]
  dsimp only
  rw [h2]
  rfl

/-- Read's own blocks. -/
structure RLoc (W : World) (gb zb r b sb : Nat) (l : List UInt8) (gv : Array Value) (cs : Array Value) (p : Nat) (e : Int) : Prop where
  geo : Blk W gb 24 gv
  zer : Blk W zb 48 #[.int .i64 0, .int .i64 0, .int .i64 0, .int .i64 0, .int .i64 0, .bool false, .int .i64 0, .int .i64 0, .int .i64 0, .int .u64 0, .int .u64 0, .int .u64 0, .int .u64 0, .slice none 0 0, .int .i64 0, .int .i64 0, .int .i64 0, .int .i64 0, .int .i64 0, .int .i64 0, .int .i64 0, .int .i64 0, .int .i64 0, .slice none 0 0]
  st : Blk W sb 48 cs
  rd : RdrAt W r b l p e
structure RNums (B gb zb r b sb : Nat) : Prop where
  y1 : gb = B
  y2 : zb = B + 1
  y3 : b = B + 2
  y4 : B + 3 ≤ r
  y5 : r < sb
section
variable {W W' : World} {B gb zb r b sb : Nat} {l : List UInt8} {gv cs : Array Value} {p p' : Nat} {e e' : Int}
theorem RLoc.below (h : RLoc W gb zb r b sb l gv cs p e) (hb : Below W.heap.size W W') : RLoc W' gb zb r b sb l gv cs p e :=
  ⟨h.geo.below hb h.geo.lt, h.zer.below hb h.zer.lt, h.st.below hb h.st.lt, h.rd.below hb⟩
theorem RLoc.only (h : RLoc W gb zb r b sb l gv cs p e) (hn : RNums B gb zb r b sb) (hr : RdrAt W' r b l p' e') (ho : Only (fun i => i = r ∨ i = b) W W') : RLoc W' gb zb r b sb l gv cs p' e' := by
  obtain ⟨h1, h2, h3, h4, h5⟩ := hn
  exact ⟨blk_only h.geo ho (by omega), blk_only h.zer ho (by omega), blk_only h.st ho (by omega), hr⟩
theorem RLoc.same (h : RLoc W gb zb r b sb l gv cs p e) (hn : RNums B gb zb r b sb) (hs : ∀ i, i ≤ sb → W'.heap[i]? = W.heap[i]?) : RLoc W' gb zb r b sb l gv cs p e := by
  obtain ⟨h1, h2, h3, h4, h5⟩ := hn
  exact ⟨(hs _ (by omega)).trans h.geo, (hs _ (by omega)).trans h.zer, (hs _ (by omega)).trans h.st, h.rd.same (hs _ (by omega)) (hs _ (by omega))⟩
theorem RLoc.err (h : RLoc W gb zb r b sb l gv cs p e) (hn : RNums B gb zb r b sb) (e' : Int) : RLoc (W.setCell ⟨r, 1, none⟩ (.int .i64 e')) gb zb r b sb l gv cs p e' := by
  obtain ⟨h1, h2, h3, h4, h5⟩ := hn
  have far : ∀ i, i ≠ r → (W.setCell ⟨r, 1, none⟩ (.int .i64 e')).heap[i]? = W.heap[i]? := fun i hi => Below.heap_setCell W ⟨r, 1, none⟩ _ i hi
  exact ⟨(far _ (by omega)).trans h.geo, (far _ (by omega)).trans h.zer, (far _ (by omega)).trans h.st, ⟨h.rd.own.put 1 (.int .i64 e'), ⟨(far _ (by omega)).trans h.rd.rd.1, h.rd.rd.2⟩, h.rd.ne⟩⟩
/-- The state's block alone has turned. -/
theorem RLoc.turn {cs' : Array Value} (h : RLoc W gb zb r b sb l gv cs p e) (hn : RNums B gb zb r b sb) (hs : ∀ i, i ≠ sb → W'.heap[i]? = W.heap[i]?) (hst : Blk W' sb 48 cs') : RLoc W' gb zb r b sb l gv cs' p e := by
  obtain ⟨h1, h2, h3, h4, h5⟩ := hn
  exact ⟨(hs _ (by omega)).trans h.geo, (hs _ (by omega)).trans h.zer, hst, h.rd.same (hs _ (by omega)) (hs _ (by omega))⟩
theorem only_sb (ho : Only (fun i => i = r ∨ i = b) W W') (hn : RNums B gb zb r b sb) (hs : sb < W.heap.size) : W'.heap[sb]? = W.heap[sb]? := by
  obtain ⟨h1, h2, h3, h4, h5⟩ := hn
  exact ho.block sb hs (by omega)
theorem only_above (ho : Only (fun i => i = r ∨ i = b) W W') (hn : RNums B gb zb r b sb) {i : Nat} (hi : i < W.heap.size) (hs : sb ≤ i) : W'.heap[i]? = W.heap[i]? := by
  obtain ⟨h1, h2, h3, h4, h5⟩ := hn
  exact ho.block i hi (by omega)
theorem only_low (ho : Only (fun i => i = r ∨ i = b) W W') (hn : RNums B gb zb r b sb) (hB : B ≤ W.heap.size) : Below B W W' := by
  obtain ⟨h1, h2, h3, h4, h5⟩ := hn
  exact ho.below hB (fun i hi => by omega)
theorem row_only {t : TypeId} {sz n : Nat} {v : Value} {xs : List Value} {B2 : Nat} (h : W.ownsRow B2 t sz v n xs) (ho : Only (fun i => i = r ∨ i = b) W W') (hn : RNums B gb zb r b sb) (hB : sb ≤ B2) : W'.ownsRow B2 t sz v n xs :=
  ownsRow_same h (fun y hy => only_above ho hn (h.lt y hy).2 (Nat.le_trans hB (h.lt y hy).1))
end
theorem build_st0 (n : Int) (p : PtrD) (W : World) : (Instr.build 48 #[(0, .agg #[.int .i64 n, .int .i64 p.ag, .int .i64 p.aa, .int .i64 p.bg, .int .i64 p.ba, .bool p.two, .int .i64 p.size, .int .i64 p.level, .int .i64 p.birth, .int .u64 p.s0, .int .u64 p.s1, .int .u64 p.s2, .int .u64 p.s3])]).run Tryz.prog W = .ok (.agg (stC ⟨n, p, scanZ, [], []⟩ nilV nilV)) W := by kernel_rfl
theorem build_stZ (W : World) : (Instr.build 48 #[]).run Tryz.prog W = .ok (.agg (stC stZ nilV nilV)) W := by kernel_rfl
theorem st_scan (s : StA) (z : ScanA) (sv tv : Value) : wrFrom (stC s sv tv) 14 (#[.int .i64 z.x0, .int .i64 z.x1, .int .i64 z.x2, .int .i64 z.x3, .int .i64 z.x4, .int .i64 z.x5, .int .i64 z.x6, .int .i64 z.x7, .int .i64 z.x8] : Array Value).toList = stC { s with z := z } sv tv := by kernel_rfl
end Go.Proofs.YtidmbibpoldgcaaGreatDoor

namespace Go.Proofs.YtidmbibpoldgcaaGreatDoor
set_option linter.unusedVariables false
set_option linter.unusedSimpArgs false
open Go.RowKit

theorem quiet_loadRow {P : Program} {a : Act} {C : World → Prop} {o : Oper} {K : Act → Prop} (ty : TypeId) (x : Operand) (ho : o.op = .load ty x) (v p : Value) (hx : a.eval x = p) (h : ∀ W, C W → (Instr.loadAt ty p).run P W = .ok v W) (hk : K (a.put o.dst v)) : o.quiet P a C K :=
  ⟨v, fun W hW => by
    unfold Oper.quietAt execOp
    simp only [ho, hx, Sem.run_bind, h W hW, Sem.run_pure, Result.andThen_ok]
    exact ⟨rfl, rfl⟩, hk⟩
theorem blk_loadAt {P : Program} {w : World} {g : Nat} {t ty : TypeId} {cs : Array Value} {d : TypeDesc} (h : Blk w g t cs) (hu : P.underlying ty = some d) (hd : (match d with | .struct _ | .array _ _ => true | _ => false) = true) (hi : (P.info? ty).map (·.size) = some cs.size) :
    (Instr.loadAt ty (.pointer (some ⟨g, 0, none⟩))).run P w = .ok (.agg cs) w := by
  simp only [Instr.loadAt, Instr.sureAddr, Sem.run_bind, Sem.run_pure, Result.andThen_ok, run_loadVar_row w g t ty cs (0, 0) d h hu hd hi]
theorem stC_0 (s : StA) (sv tv : Value) (y : Int) : (stC s sv tv).setIfInBounds 0 (.int .i64 y) = stC { s with n := y } sv tv := rfl

set_option maxRecDepth 100000 in
theorem mne_any (s o : StA) (sv tv su tu : Value) (w : World) (hne : s.n ≠ o.n) :
    Calls Tryz.prog 12 #[.agg (stC s sv tv), .agg (stC o su tu)] w fun e w' => e = .returned (.bool false) ∧ Below w.heap.size w w' := by
  obtain ⟨cA, hcA⟩ : ∃ x, x = stC s sv tv := ⟨_, rfl⟩
  obtain ⟨cB, hcB⟩ : ∃ x, x = stC o su tu := ⟨_, rfl⟩
  rw [← hcA, ← hcB]
  obtain ⟨w1, hw1⟩ : ∃ x, (w.alloc (.cells cA 48)).alloc (.cells cB 48) = x := ⟨_, rfl⟩
  have B1 : Blk w1 w.heap.size 48 cA := by rw [← hw1]; exact (Blk.new _ _ _).alloc _
  have B2 : Blk w1 (w.heap.size + 1) 48 cB := by rw [← hw1]; exact Blk.new2 w _ _ _
  have d1 : Below w.heap.size w w1 := by rw [← hw1]; exact keep_alloc (keep_alloc (Below.refl _ _) _) _
  rw [hcA] at B1
  rw [hcB] at B2
  have b1 : ∀ i v, (stC s sv tv)[i]? = some v → w1.cell? ⟨w.heap.size, i, none⟩ = some v := fun i v hv => B1.at_ hv
  have b2 : ∀ i v, (stC o su tu)[i]? = some v → w1.cell? ⟨w.heap.size + 1, i, none⟩ = some v := fun i v hv => B2.at_ hv
  have e0 : w1.cell? ⟨w.heap.size, 0, none⟩ = some (.int .i64 s.n) := b1 0 _ rfl
  have e1 : w1.cell? ⟨w.heap.size, 1, none⟩ = some (.int .i64 s.p.ag) := b1 1 _ rfl
  have e2 : w1.cell? ⟨w.heap.size, 2, none⟩ = some (.int .i64 s.p.aa) := b1 2 _ rfl
  have e3 : w1.cell? ⟨w.heap.size, 3, none⟩ = some (.int .i64 s.p.bg) := b1 3 _ rfl
  have e4 : w1.cell? ⟨w.heap.size, 4, none⟩ = some (.int .i64 s.p.ba) := b1 4 _ rfl
  have e5 : w1.cell? ⟨w.heap.size, 5, none⟩ = some (.bool s.p.two) := b1 5 _ rfl
  have e6 : w1.cell? ⟨w.heap.size, 6, none⟩ = some (.int .i64 s.p.size) := b1 6 _ rfl
  have e7 : w1.cell? ⟨w.heap.size, 7, none⟩ = some (.int .i64 s.p.level) := b1 7 _ rfl
  have e8 : w1.cell? ⟨w.heap.size, 8, none⟩ = some (.int .i64 s.p.birth) := b1 8 _ rfl
  have e9 : w1.cell? ⟨w.heap.size, 9, none⟩ = some (.int .u64 s.p.s0) := b1 9 _ rfl
  have e10 : w1.cell? ⟨w.heap.size, 10, none⟩ = some (.int .u64 s.p.s1) := b1 10 _ rfl
  have e11 : w1.cell? ⟨w.heap.size, 11, none⟩ = some (.int .u64 s.p.s2) := b1 11 _ rfl
  have e12 : w1.cell? ⟨w.heap.size, 12, none⟩ = some (.int .u64 s.p.s3) := b1 12 _ rfl
  have g0 : w1.cell? ⟨w.heap.size + 1, 0, none⟩ = some (.int .i64 o.n) := b2 0 _ rfl
  have g1 : w1.cell? ⟨w.heap.size + 1, 1, none⟩ = some (.int .i64 o.p.ag) := b2 1 _ rfl
  have g2 : w1.cell? ⟨w.heap.size + 1, 2, none⟩ = some (.int .i64 o.p.aa) := b2 2 _ rfl
  have g3 : w1.cell? ⟨w.heap.size + 1, 3, none⟩ = some (.int .i64 o.p.bg) := b2 3 _ rfl
  have g4 : w1.cell? ⟨w.heap.size + 1, 4, none⟩ = some (.int .i64 o.p.ba) := b2 4 _ rfl
  have g5 : w1.cell? ⟨w.heap.size + 1, 5, none⟩ = some (.bool o.p.two) := b2 5 _ rfl
  have g6 : w1.cell? ⟨w.heap.size + 1, 6, none⟩ = some (.int .i64 o.p.size) := b2 6 _ rfl
  have g7 : w1.cell? ⟨w.heap.size + 1, 7, none⟩ = some (.int .i64 o.p.level) := b2 7 _ rfl
  have g8 : w1.cell? ⟨w.heap.size + 1, 8, none⟩ = some (.int .i64 o.p.birth) := b2 8 _ rfl
  have g9 : w1.cell? ⟨w.heap.size + 1, 9, none⟩ = some (.int .u64 o.p.s0) := b2 9 _ rfl
  have g10 : w1.cell? ⟨w.heap.size + 1, 10, none⟩ = some (.int .u64 o.p.s1) := b2 10 _ rfl
  have g11 : w1.cell? ⟨w.heap.size + 1, 11, none⟩ = some (.int .u64 o.p.s2) := b2 11 _ rfl
  have g12 : w1.cell? ⟨w.heap.size + 1, 12, none⟩ = some (.int .u64 o.p.s3) := b2 12 _ rfl
  have HD1 := Lib.hid d1
  clear hcA hcB b1 b2 B1 B2 d1
  have qn := fun W => meql_node s.n o.n s.p o.p W
  have hn : (s.n == o.n && ptrEq s.p o.p) = false := by rw [beq_eq_false_iff_ne.2 hne]; rfl
  rw [hn] at qn
  clear hn hne
  go_enter Tryz.func12, Tryz.ntmps12
  go_wp2_with fail
  go_ret
  exact ⟨rfl, HD1.out⟩
end Go.Proofs.YtidmbibpoldgcaaGreatDoor
