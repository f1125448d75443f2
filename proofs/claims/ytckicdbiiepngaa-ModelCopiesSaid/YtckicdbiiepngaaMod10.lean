/-
  Acts on nil; the document's example.
-/
import Derived.Test.YtckicdbiiepngaaMod9
namespace Go.Proofs.Ytckicdbiiepngaa
set_option linter.unusedVariables false
set_option linter.unusedSimpArgs false
open Go.RowKit Go.Maps Go.Lib Go.Shelf

theorem mod_eq {a q : Nat} (n : Nat) (h : a % n = q) : (a : Int).tmod (n : Int) = (q : Int) := (IntWalk.up_tmod rfl rfl).trans (by rw [h])
theorem found_nil (id : Int) (w : World) : Calls Try.prog 47 #[.pointer none, .int .i64 id] w fun e w' => e = .returned (.tuple #[.int .i64 0, .int .i64 11]) ∧ w = w' := by
  go_enter Try.func47, Try.ntmps47
  go_wp2_with fail
  go_ret2
  exact ⟨rfl, rfl⟩
theorem snap_nil (id : Int) (w : World) : Calls Try.prog 27 #[.pointer none, .int .i64 id] w fun e w' => e = .returned (.int .i64 11) ∧ w = w' := by
  go_enter Try.func27, Try.ntmps27
  go_wp2_with fail
  go_ret
  exact ⟨rfl, rfl⟩
theorem destroy_nil (id : Int) (w : World) : Calls Try.prog 28 #[.pointer none, .int .i64 id] w fun e w' => e = .returned (.int .i64 11) ∧ w = w' := by
  go_enter Try.func28, Try.ntmps28
  go_wp2_with fail
  refine (found_nil id w).mono ?_
  rintro e w1 ⟨rfl, rfl⟩
  go_wp2_with fail
  go_ret
  exact ⟨rfl, rfl⟩
theorem rollback_nil (id : Int) (w : World) : Calls Try.prog 29 #[.pointer none, .int .i64 id] w fun e w' => e = .returned (.int .i64 11) ∧ w = w' := by
  go_enter Try.func29, Try.ntmps29
  go_wp2_with fail
  refine (found_nil id w).mono ?_
  rintro e w1 ⟨rfl, rfl⟩
  go_wp2_with fail
  go_ret
  exact ⟨rfl, rfl⟩

structure MAct where
  do_ : Nat
  id : Int
  off : Int
  n : Int
  fill : UInt8
structure MAct.Ok (a : MAct) : Prop where
  d : a.do_ ≤ 255
  i : -9223372036854775808 ≤ a.id ∧ a.id ≤ 9223372036854775807
  o : -9223372036854775808 ≤ a.off ∧ a.off ≤ 9223372036854775807
  n : -9223372036854775808 ≤ a.n ∧ a.n ≤ 9223372036854775807
theorem do_cases (a : MAct) : ∃ q : Nat, q < 8 ∧ (a.do_ : Int).tmod 8 = (q : Int) := ⟨a.do_ % 8, Nat.mod_lt _ (by omega), mod_eq 8 rfl⟩

set_option maxRecDepth 20000 in
theorem do_nil (a : MAct) (h : a.Ok) (w : World) : Calls Try.prog 10 #[.pointer none, .agg #[.int .u8 a.do_, .int .i64 a.id, .int .i64 a.off, .int .i64 a.n, .int .u8 a.fill.toNat]] w fun e w' => e = .returned (.int .i64 11) ∧ Below w.heap.size w w' := by
  obtain ⟨dn, id, off, n, fill⟩ := a
  obtain ⟨q, hq8, hq⟩ := do_cases ⟨dn, id, off, n, fill⟩
  have H := Lib.hid h
  clear h
  simp only at hq ⊢
  have hcnt : ∀ W, Calls Try.prog 31 #[.agg #[.int .u8 dn, .int .i64 id, .int .i64 off, .int .i64 n, .int .u8 fill.toNat]] W fun e w' => e = .returned (.int .i64 (cntA n)) ∧ Below W.heap.size W w' := fun W => count_any _ _ _ _ _ n rfl W
  have hcl := cntA_le n
  generalize hcn : cntA n = c at hcnt hcl
  have hfill : ∀ W, Calls Try.prog 30 #[.int .u8 fill.toNat, .int .i64 c] W fun e w' => e = .returned (str (List.replicate c fill)) ∧ Below W.heap.size W w' := fun W => fill_any fill c hcl W
  have hwr : ∀ W, Calls Try.prog 23 #[.pointer none, .int .i64 id, .int .i64 off, str (List.replicate c fill)] W fun e w' => e = .returned (.int .i64 11) ∧ W = w' := fun W => write_nil id off _ W
  generalize hfl : List.replicate c fill = s at hfill hwr
  have HC := Lib.hid hcnt
  have HF := Lib.hid hfill
  have HW := Lib.hid hwr
  clear hcnt hfill hwr hcn hfl hcl
  have HQ := Lib.hid hq
  clear hq
  go_enter Try.func10, Try.ntmps10
  have hcase : q = 3 ∨ q = 4 ∨ q = 5 ∨ q = 6 ∨ q = 7 ∨ q = 0 ∨ q = 1 ∨ q = 2 := by omega
  clear hq8
  rcases hcase with rfl | rfl | rfl | rfl | rfl | hcase
  · have hq := HQ.out
    go_wp2_with fail
    refine (truncate_nil _ _ _).mono ?_
    rintro e w1 ⟨rfl, rfl⟩
    go_wp2_with fail
    go_ret
    exact ⟨rfl, keep_alloc (Below.refl _ _) _⟩
  · have hq := HQ.out
    go_wp2_with fail
    refine (remove_nil _ _).mono ?_
    rintro e w1 ⟨rfl, rfl⟩
    go_wp2_with fail
    go_ret
    exact ⟨rfl, keep_alloc (Below.refl _ _) _⟩
  · have hq := HQ.out
    go_wp2_with fail
    refine (snap_nil _ _).mono ?_
    rintro e w1 ⟨rfl, rfl⟩
    go_wp2_with fail
    go_ret
    exact ⟨rfl, keep_alloc (Below.refl _ _) _⟩
  · have hq := HQ.out
    go_wp2_with fail
    refine (destroy_nil _ _).mono ?_
    rintro e w1 ⟨rfl, rfl⟩
    go_wp2_with fail
    go_ret
    exact ⟨rfl, keep_alloc (Below.refl _ _) _⟩
  · have hq := HQ.out
    go_wp2_with fail
    refine (rollback_nil _ _).mono ?_
    rintro e w1 ⟨rfl, rfl⟩
    go_wp2_with fail
    go_ret
    exact ⟨rfl, keep_alloc (Below.refl _ _) _⟩
  · have hq := HQ.out
    have d3 : ((q : Int) == 3) = false := by rw [beq_eq_false_iff_ne]; omega
    have d4 : ((q : Int) == 4) = false := by rw [beq_eq_false_iff_ne]; omega
    have d5 : ((q : Int) == 5) = false := by rw [beq_eq_false_iff_ne]; omega
    have d6 : ((q : Int) == 6) = false := by rw [beq_eq_false_iff_ne]; omega
    have d7 : ((q : Int) == 7) = false := by rw [beq_eq_false_iff_ne]; omega
    clear hcase
    repeat' (first
      | go_values
      | go_skip
      | go_guarded
      | ((fail_if_success (with_reducible refine drawn_mark ?_))
         first
           | go_step
           | go_upon
           | go_back
           | (simp only [Int.not_lt, Int.not_le] at *; go_simp)
           | (go_values <;> (try go_simp))
           | (go_ite <;> go_prune <;> (try go_simp))
           | (split <;> (first | (rename_i hx; exact (hx _ rfl).elim) | go_prune))))
    obtain ⟨w1, hw1⟩ : ∃ x, x = w.alloc (.cells #[.int .u8 dn, .int .i64 id, .int .i64 off, .int .i64 n, .int .u8 fill.toNat] 37) := ⟨_, rfl⟩
    have hb1 : Below w.heap.size w w1 := by rw [hw1]; exact keep_alloc (Below.refl _ _) _
    have hx1 : Blk w1 w.heap.size 37 #[.int .u8 dn, .int .i64 id, .int .i64 off, .int .i64 n, .int .u8 fill.toNat] := by rw [hw1]; exact Blk.new _ _ _
    rw [← hw1]
    have HB1 := Lib.hid hb1
    obtain ⟨C, hC, hC0, hCB, hCK, hCd⟩ := cls_below w1
    have f0 : ∀ W, C W → W.cell? ⟨w.heap.size, 0, none⟩ = some (.int .u8 dn) := fun W hW => (hx1.below (hCB W hW) hx1.lt).at_ rfl
    have f1 : ∀ W, C W → W.cell? ⟨w.heap.size, 1, none⟩ = some (.int .i64 id) := fun W hW => (hx1.below (hCB W hW) hx1.lt).at_ rfl
    have f2 : ∀ W, C W → W.cell? ⟨w.heap.size, 2, none⟩ = some (.int .i64 off) := fun W hW => (hx1.below (hCB W hW) hx1.lt).at_ rfl
    have f3 : ∀ W, C W → W.cell? ⟨w.heap.size, 3, none⟩ = some (.int .i64 n) := fun W hW => (hx1.below (hCB W hW) hx1.lt).at_ rfl
    have f4 : ∀ W, C W → W.cell? ⟨w.heap.size, 4, none⟩ = some (.int .u8 fill.toNat) := fun W hW => (hx1.below (hCB W hW) hx1.lt).at_ rfl
    clear hw1 hb1 hx1 hC0 hCd d3 d4 d5 d6 d7 hq
    refine wp_region_cls C (by kernel_rfl) (by kernel_rfl) hC ?_
    repeat (first
      | go_big_quiet_skip
      | (go_big_quiet_want
         go_big_quiet_op
         first
           | go_big_quiet_on
           | (apply Exists.intro
              refine ⟨fun W hW => ?_, ?_⟩
              · first
                  | exact rfl
                  | exact ⟨rfl, rfl⟩
                  | (have e0 := f0 W hW; have e1 := f1 W hW; have e2 := f2 W hW; have e3 := f3 W hW; have e4 := f4 W hW; simp only [e0, e1, e2, e3, e4, Result.andThen_ok]; done)
                  | (have e0 := f0 W hW; have e1 := f1 W hW; have e2 := f2 W hW; have e3 := f3 W hW; have e4 := f4 W hW; simp only [e0, e1, e2, e3, e4, Result.andThen_ok]; first | exact ⟨trivial, rfl⟩ | exact rfl | exact ⟨rfl, rfl⟩)
                  | ((first | (refine (HC.out W).mono ?_; rintro e w' ⟨rfl, hb⟩; exact ⟨rfl, hCK _ _ hW hb⟩) | (refine (HF.out W).mono ?_; rintro e w' ⟨rfl, hb⟩; exact ⟨rfl, hCK _ _ hW hb⟩) | (refine (HW.out W).mono ?_; rintro e w' ⟨rfl, rfl⟩; exact ⟨rfl, hW⟩)))
              go_big_quiet_on)))
    refine wpQuiet_nil ?_
    intro w2 hw2
    have HB := Lib.hid (keep_below (hCB w2 hw2) HB1.out)
    clear f0 f1 f2 f3 f4 hC hCB hCK hw2 HC HF HW
    go_wp2_with fail
    go_ret
    exact ⟨rfl, HB.out⟩

theorem of_live {w : World} {b m : Nat} (c0 : w.cell? ⟨b, 0, none⟩ = some (.map (some m))) : Calls Try.prog 35 #[.pointer (some ⟨b, 0, none⟩), .int .i64 (-1)] w fun e w' => e = .returned (.tuple #[.map (some m), .int .i64 0]) ∧ w = w' := by
  go_enter Try.func35, Try.ntmps35
  go_wp2_with fail
  go_ret2
  exact ⟨rfl, rfl⟩
set_option maxRecDepth 20000 in
theorem read_x {w : World} {S : Nat → Prop} {b : Nat} {d : ModD} {N : Nat} (h : ModAt w S b d N) (hh : has d.now.live (.int .i64 3) = true) (ht : txt d.now.live 3 = [120]) :
    Calls Try.prog 12 #[.pointer (some ⟨b, 0, none⟩), .int .i64 (-1), .int .i64 3, .int .i64 0, .int .i64 9] w fun e w' => e = .returned (.tuple #[str [120], .int .i64 0]) ∧ w = w' := by
  obtain ⟨m, cs, hb, h0, hm, _⟩ := h.live_at
  have c0 := hb.at_ h0
  have hl := (MapT.look_ok hm (k := 3) (wfz_in (by omega) (by omega))).1
  rw [hh, ht] at hl
  have hls : (ByteArray.mk ([120] : List UInt8).toArray).size = 1 := rfl
  have HO := Lib.hid (of_live c0)
  clear h hb h0 hm hh ht
  have hme : mayE 3 = 0 := rfl
  have hsl : (Instr.slice 9 (str [120]) (some (.int .i64 0)) (some (.int .i64 (min 9 1))) none).run Try.prog w = .ok (str [120]) w := by kernel_rfl
  go_enter Try.func12, Try.ntmps12
  go_wp2_with fail
  refine (may_any b 3 w).mono ?_
  rintro e w1 ⟨rfl, rfl⟩
  rw [hme]
  go_wp2_with fail
  refine HO.out.mono ?_
  rintro e w1 ⟨rfl, rfl⟩
  go_wp2_with fail
  go_ret2
  exact ⟨rfl, rfl⟩
end Go.Proofs.Ytckicdbiiepngaa
