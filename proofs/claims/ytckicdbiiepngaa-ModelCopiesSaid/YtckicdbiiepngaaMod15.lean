/-
  An act on a world.
-/
import Derived.Test.YtckicdbiiepngaaMod14
namespace Go.Proofs.Ytckicdbiiepngaa
set_option linter.unusedVariables false
set_option linter.unusedSimpArgs false
open Go.RowKit Go.Maps Go.Lib Go.Shelf

theorem Act1.after {w w1 w' : World} {S : Nat → Prop} {b : Nat} {d : ModD} {N : Nat} {er : Int} (hb : Below w.heap.size w w1) (h : Act1 w1 w' S b d N er) : Act1 w w' S b d N er := by
  obtain ⟨d', h1, h2, h3, h4⟩ := h
  refine ⟨d', h1.mono (fun i hi => ?_) (fun i hi => ?_), (Only.of_below hb).trans h2 (fun i hi => .inl hi), h3, h4⟩
  · rcases hi with hi | hi
    · exact .inl hi
    · exact .inr ⟨Nat.le_trans hb.size hi.1, hi.2⟩
  · rcases hi with hi | hi
    · exact h1.lt i (.inl hi)
    · exact hi.2
theorem wrD_kept (d : ModD) (id off : Int) (s : List UInt8) : (wrD d id off s).kept = d.kept := by
  unfold wrD; split <;> rfl
theorem wrD_no {d : ModD} {id off : Int} {s : List UInt8} (h : wrE id off s.length ≠ 0) : wrD d id off s = d := by
  unfold wrD; rw [if_neg h]
theorem remD_kept (d : ModD) (id : Int) : (remD d id).kept = d.kept := by
  unfold remD; split <;> rfl
theorem remD_no {d : ModD} {id : Int} (h : hasE d.now.live id ≠ 0) : remD d id = d := by
  unfold remD; rw [if_neg h]

set_option maxRecDepth 20000 in
theorem do_any {w : World} {S : Nat → Prop} {b : Nat} {d : ModD} {N : Nat} (h : ModAt w S b d N) (hN : N ≤ 1000000) (a : MAct) (ha : a.Ok) :
    Calls Try.prog 10 #[.pointer (some ⟨b, 0, none⟩), .agg #[.int .u8 a.do_, .int .i64 a.id, .int .i64 a.off, .int .i64 a.n, .int .u8 a.fill.toNat]] w fun e w' => ∃ er, e = .returned (.int .i64 er) ∧ Act1 w w' S b d N er := by
  obtain ⟨dn, id, off, n, fill⟩ := a
  obtain ⟨q, hq8, hq⟩ := do_cases ⟨dn, id, off, n, fill⟩
  have HA := Lib.hid ha
  simp only at hq ⊢
  have hcnt : ∀ W, Calls Try.prog 31 #[.agg #[.int .u8 dn, .int .i64 id, .int .i64 off, .int .i64 n, .int .u8 fill.toNat]] W fun e w' => e = .returned (.int .i64 (cntA n)) ∧ Below W.heap.size W w' := fun W => count_any _ _ _ _ _ n rfl W
  have hcl := cntA_le n
  generalize hcn : cntA n = c at hcnt hcl
  have hfill : ∀ W, Calls Try.prog 30 #[.int .u8 fill.toNat, .int .i64 c] W fun e w' => e = .returned (str (List.replicate c fill)) ∧ Below W.heap.size W w' := fun W => fill_any fill c hcl W
  have hsl : (List.replicate c fill).length ≤ 600 := by rw [List.length_replicate]; exact hcl
  generalize hfl : List.replicate c fill = s at hfill hsl
  have HC := Lib.hid hcnt
  have HF := Lib.hid hfill
  have HSL := Lib.hid hsl
  clear hcnt hfill hcn hfl hcl ha hsl
  have HQ := Lib.hid hq
  clear hq
  obtain ⟨w1, hw1⟩ : ∃ x, x = w.alloc (.cells #[.int .u8 dn, .int .i64 id, .int .i64 off, .int .i64 n, .int .u8 fill.toNat] 37) := ⟨_, rfl⟩
  have hb1 : Below w.heap.size w w1 := by rw [hw1]; exact keep_alloc (Below.refl _ _) _
  have hx1 : Blk w1 w.heap.size 37 #[.int .u8 dn, .int .i64 id, .int .i64 off, .int .i64 n, .int .u8 fill.toNat] := by rw [hw1]; exact Blk.new _ _ _
  have hm1 := h.below hb1
  have hns : ¬ S w.heap.size := fun hS => Nat.lt_irrefl _ (h.lt _ hS)
  have HB1 := Lib.hid hb1
  have HX1 := Lib.hid hx1
  have HM1 := Lib.hid hm1
  have HNS := Lib.hid hns
  have HW1 := Lib.hid hw1
  clear hb1 hx1 hm1 h hns hw1
  go_enter Try.func10, Try.ntmps10
  have hcase : q = 3 ∨ q = 4 ∨ q = 5 ∨ q = 6 ∨ q = 7 ∨ q = 0 ∨ q = 1 ∨ q = 2 := by omega
  clear hq8
  rcases hcase with rfl | rfl | rfl | rfl | rfl | hcase
  · have hq := HQ.out
    go_wp2_with fail
    rw [← HW1.out]
    refine (truncate_any HM1.out hN _ _).mono ?_
    rintro e w2 ⟨er, rfl, h2⟩
    have H2 := Lib.hid h2
    clear h2
    go_wp2_with fail
    go_ret
    exact ⟨_, rfl, H2.out.after HB1.out⟩
  · have hq := HQ.out
    go_wp2_with fail
    rw [← HW1.out]
    refine (remove_any HM1.out _).mono ?_
    rintro e w2 ⟨rfl, h2, h3⟩
    have H2 : Hid (Act1 w1 w2 S b d N (hasE d.now.live id)) := Lib.hid ⟨_, h2, h3, remD_kept _ _, remD_no⟩
    clear h2 h3
    go_wp2_with fail
    go_ret
    exact ⟨_, rfl, H2.out.after HB1.out⟩
  · have hq := HQ.out
    go_wp2_with fail
    rw [← HW1.out]
    refine (snap_any HM1.out _).mono ?_
    rintro e w2 ⟨er, rfl, h2⟩
    have H2 := Lib.hid h2
    clear h2
    go_wp2_with fail
    go_ret
    exact ⟨_, rfl, H2.out.after HB1.out⟩
  · have hq := HQ.out
    go_wp2_with fail
    rw [← HW1.out]
    refine (destroy_any HM1.out _).mono ?_
    rintro e w2 ⟨er, rfl, h2⟩
    have H2 := Lib.hid h2
    clear h2
    go_wp2_with fail
    go_ret
    exact ⟨_, rfl, H2.out.after HB1.out⟩
  · have hq := HQ.out
    go_wp2_with fail
    rw [← HW1.out]
    refine (rollback_any HM1.out _).mono ?_
    rintro e w2 ⟨er, rfl, h2⟩
    have H2 := Lib.hid h2
    clear h2
    go_wp2_with fail
    go_ret
    exact ⟨_, rfl, H2.out.after HB1.out⟩
  · have hq := HQ.out
    have d3 : ((q : Int) == 3) = false := by rw [beq_eq_false_iff_ne]; omega
    have d4 : ((q : Int) == 4) = false := by rw [beq_eq_false_iff_ne]; omega
    have d5 : ((q : Int) == 5) = false := by rw [beq_eq_false_iff_ne]; omega
    have d6 : ((q : Int) == 6) = false := by rw [beq_eq_false_iff_ne]; omega
    have d7 : ((q : Int) == 7) = false := by rw [beq_eq_false_iff_ne]; omega
    clear hcase
    repeat' (first
      | go_values
      | go_skip
      | go_guarded
      | ((fail_if_success (with_reducible refine drawn_mark ?_))
         first
           | go_step
           | go_upon
           | go_back
           | (simp only [Int.not_lt, Int.not_le] at *; go_simp)
           | (go_values <;> (try go_simp))
           | (go_ite <;> go_prune <;> (try go_simp))
           | (split <;> (first | (rename_i hx; exact (hx _ rfl).elim) | go_prune))))
    rw [← HW1.out]
    obtain ⟨C, hC⟩ : ∃ C : World → Prop, C = fun W => W.heap[w.heap.size]? = w1.heap[w.heap.size]? := ⟨_, rfl⟩
    have f0 : ∀ W, C W → W.cell? ⟨w.heap.size, 0, none⟩ = some (.int .u8 dn) := fun W hW => by rw [hC] at hW; exact (show Blk W _ _ _ from hW.trans HX1.out).at_ rfl
    have f1 : ∀ W, C W → W.cell? ⟨w.heap.size, 1, none⟩ = some (.int .i64 id) := fun W hW => by rw [hC] at hW; exact (show Blk W _ _ _ from hW.trans HX1.out).at_ rfl
    have f2 : ∀ W, C W → W.cell? ⟨w.heap.size, 2, none⟩ = some (.int .i64 off) := fun W hW => by rw [hC] at hW; exact (show Blk W _ _ _ from hW.trans HX1.out).at_ rfl
    have f3 : ∀ W, C W → W.cell? ⟨w.heap.size, 3, none⟩ = some (.int .i64 n) := fun W hW => by rw [hC] at hW; exact (show Blk W _ _ _ from hW.trans HX1.out).at_ rfl
    have f4 : ∀ W, C W → W.cell? ⟨w.heap.size, 4, none⟩ = some (.int .u8 fill.toNat) := fun W hW => by rw [hC] at hW; exact (show Blk W _ _ _ from hW.trans HX1.out).at_ rfl
    have hSw : C w1.drew := by rw [hC]; rfl
    have hC2 : ∀ W, W.heap[w.heap.size]? = w1.heap[w.heap.size]? → C W := fun W a => by rw [hC]; exact a
    have HCC := Lib.hid hC2
    clear hC hC2 d3 d4 d5 d6 d7 hq
    refine wp_region_eff C [8, 9] 10 (by kernel_rfl) (by kernel_rfl) (by kernel_rfl) hSw ?_
    simp only [List.take_succ_cons, List.take_zero, List.drop_succ_cons, List.drop_zero]
    refine wpLexE_take 8 (by kernel_rfl) (by kernel_rfl) ?_
    simp only [List.take_succ_cons, List.take_zero, List.drop_succ_cons, List.drop_zero]
    repeat (first
      | go_big_quiet_skip
      | (go_big_quiet_want
         go_big_quiet_op
         first
           | go_big_quiet_on
           | (apply Exists.intro
              refine ⟨fun W hW => ?_, ?_⟩
              · first
                  | exact rfl
                  | exact ⟨rfl, rfl⟩
                  | (have e0 := f0 W hW; have e1 := f1 W hW; have e2 := f2 W hW; have e3 := f3 W hW; have e4 := f4 W hW; simp only [e0, e1, e2, e3, e4, Result.andThen_ok]; done)
                  | (have e0 := f0 W hW; have e1 := f1 W hW; have e2 := f2 W hW; have e3 := f3 W hW; have e4 := f4 W hW; simp only [e0, e1, e2, e3, e4, Result.andThen_ok]; first | exact ⟨trivial, rfl⟩ | exact rfl | exact ⟨rfl, rfl⟩)
                  | (skip)
              go_big_quiet_on)))
    refine wpQuiet_nil ?_
    show wpLexE _ _ _ _ _ _ _ _ _
    refine wpLexE_eff (by kernel_rfl) rfl ?_
    go_wp2_with fail
    refine (HC.out _).mono ?_
    rintro e w2 ⟨rfl, hb2⟩
    have HB2 : Hid (Below w1.heap.size w1 w2) := Lib.hid ⟨hb2.os, hb2.tape, hb2.output, hb2.size, fun i hi => hb2.block i hi⟩
    have hS2 : C w2 := HCC.out _ (HB2.out.block _ HX1.out.lt)
    clear hb2
    go_wp2_with fail
    refine ⟨rfl, hS2, ?_⟩
    refine wpLexE_eff (by kernel_rfl) rfl ?_
    go_wp2_with fail
    refine (HF.out _).mono ?_
    rintro e w3 ⟨rfl, hb3⟩
    have HB3 : Hid (Below w1.heap.size w1 w3) := Lib.hid (keep_below hb3 HB2.out)
    have hS3 : C w3 := HCC.out _ (HB3.out.block _ HX1.out.lt)
    clear hb3
    go_wp2_with fail
    refine ⟨rfl, hS3, ?_⟩
    show wpList _ _ _ _ _ _
    clear f0 f1 f2 f3 f4 hSw hS2 hS3
    go_wp2_with fail
    refine (write_any (HM1.out.below HB3.out) hN id off s (by have := HSL.out; omega) (by have := HA.out.o; exact this.1) (by have := HA.out.o; exact this.2)).mono ?_
    rintro e w4 ⟨rfl, h4, o4⟩
    have H4 : Hid (Act1 w3 w4 S b d N (wrE id off s.length)) := Lib.hid ⟨_, h4, o4, wrD_kept _ _ _ _, wrD_no⟩
    clear h4 o4
    go_wp2_with fail
    go_ret
    exact ⟨_, rfl, (H4.out.after HB3.out).after HB1.out⟩
end Go.Proofs.Ytckicdbiiepngaa
