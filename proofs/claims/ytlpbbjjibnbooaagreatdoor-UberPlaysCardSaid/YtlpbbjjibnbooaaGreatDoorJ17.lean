/-
  The contract of node.Right.
  A text's words, and its sum: plain words.
  A loop over an iterator that keeps cells of its own between its rounds, and is run to its end: what is said of the rounds abides whatever turns from the loop's beginning on. No program stands here.
  Regions that draw their order, inside a wide fence (a round, or the activation of a function that calls yield): reads and effects by the plain laws, a forced tail that may call yield. No program stands here.
  Contracts of package fletch: Words.
-/
import Derived.Test.YtlpbbjjibnbooaaGreatDoorJ13
import Derived.Test.YtlpbbjjibnbooaaGreatDoorJ15
import Derived.Test.YtlpbbjjibnbooaaGreatDoorJ01
import Derived.Test.YtlpbbjjibnbooaaGreatDoorJ14
import Derived.RangeFuncWrites
import Derived.Test.YtlpbbjjibnbooaaGreatDoorJ09
import Derived.Test.YtlpbbjjibnbooaaGreatDoorJ10
import Derived.Test.YtlpbbjjibnbooaaGreatDoorJ07
import Derived.RangeFuncNested
import Derived.RangeFuncBound
import Derived.RangeFuncCalls
import Derived.RangeFuncLeaves
import Derived.Shelf.RegionOpen
import Derived.OwnWalkIn
import Derived.TacticsInMore
import Derived.LoopNIn
import Derived.LoopIn
import Derived.Test.YtlpbbjjibnbooaaGreatDoorJ12
namespace Go.Proofs.YtlpbbjjibnbooaaGreatDoor
set_option linter.unusedVariables false
set_option linter.unusedSimpArgs false
open Go.RowKit

def nRightB (gs : List (Int × Int)) (secs n : Int) (p : PtrD) : Bool := decide (0 ≤ n ∧ n ≤ 16384) && (noneB p || rightB gs secs p && decide (p.level = levN n))
theorem nodeAt_new (w : World) (n : Int) (p : PtrD) (t : TypeId) : PtrAt (w.alloc (.cells #[.int .i64 n, .int .i64 p.ag, .int .i64 p.aa, .int .i64 p.bg, .int .i64 p.ba, .bool p.two, .int .i64 p.size, .int .i64 p.level, .int .i64 p.birth, .int .u64 p.s0, .int .u64 p.s1, .int .u64 p.s2, .int .u64 p.s3] t)) w.heap.size 1 p :=
  ⟨cell_new rfl rfl, cell_new rfl rfl, cell_new rfl rfl, cell_new rfl rfl, cell_new rfl rfl, cell_new rfl rfl, cell_new rfl rfl, cell_new rfl rfl, cell_new rfl rfl, cell_new rfl rfl, cell_new rfl rfl, cell_new rfl rfl⟩

set_option maxRecDepth 100000 in
set_option maxHeartbeats 4000000 in
theorem nright_any (A : Option Addr) (m c : Nat) (gs : List (Int × Int)) (secs n : Int) (p : PtrD) (w : World) (hg : GeoAt w A m gs) :
    Calls Tryz.prog 35 #[.agg #[.slice A m c, .int .i64 secs], .agg #[.int .i64 n, .int .i64 p.ag, .int .i64 p.aa, .int .i64 p.bg, .int .i64 p.ba, .bool p.two, .int .i64 p.size, .int .i64 p.level, .int .i64 p.birth, .int .u64 p.s0, .int .u64 p.s1, .int .u64 p.s2, .int .u64 p.s3]] w fun e w' => e = .returned (.bool (nRightB gs secs n p)) ∧ Below w.heap.size w w' := by
  obtain ⟨w0, hw0⟩ : ∃ w0, w0 = ((w.alloc (Obj.cells #[Value.slice A m c, Value.int IntKind.i64 secs] 24)).alloc (.cells #[.int .i64 n, .int .i64 p.ag, .int .i64 p.aa, .int .i64 p.bg, .int .i64 p.ba, .bool p.two, .int .i64 p.size, .int .i64 p.level, .int .i64 p.birth, .int .u64 p.s0, .int .u64 p.s1, .int .u64 p.s2, .int .u64 p.s3] 33)) := ⟨_, rfl⟩
  have hb0 : Below w.heap.size w w0 := by rw [hw0]; exact ((Below.refl _ _).alloc (Nat.le_refl _) _).alloc (by simp) _
  have hs0 : w.heap.size + 2 ≤ w0.heap.size := by rw [hw0]; simp
  have HP0 : Hid (PtrAt w0 (w.heap.size + 1) 1 p) := by
    have := nodeAt_new (w.alloc (Obj.cells #[Value.slice A m c, Value.int IntKind.i64 secs] 24)) n p 33
    rw [World.size_alloc] at this
    rw [hw0]; exact Lib.hid this
  have k1 : w0.cell? ⟨w.heap.size, 0, none⟩ = some (.slice A m c) := by rw [hw0]; exact cell_alloc (cell_new rfl rfl) _
  have k2 : w0.cell? ⟨w.heap.size, 1, none⟩ = some (.int .i64 secs) := by rw [hw0]; exact cell_alloc (cell_new rfl rfl) _
  have k3 : w0.cell? ⟨w.heap.size + 1, 0, none⟩ = some (.int .i64 n) := by rw [hw0]; exact cell_new (by simp) rfl
  have HV : Hid (nRightB gs secs n p = (decide (0 ≤ n ∧ n ≤ 16384) && (noneB p || rightB gs secs p && decide (p.level = levN n)))) := Lib.hid rfl
  have HNO : Hid (∀ W, Calls Tryz.prog 74 #[.agg #[.int .i64 p.ag, .int .i64 p.aa, .int .i64 p.bg, .int .i64 p.ba, .bool p.two, .int .i64 p.size, .int .i64 p.level, .int .i64 p.birth, .int .u64 p.s0, .int .u64 p.s1, .int .u64 p.s2, .int .u64 p.s3]] W fun e w' => e = .returned (.bool (noneB p)) ∧ Below W.heap.size W w') := Lib.hid fun W => none_any p W
  have HRT : Hid (∀ W, Below w.heap.size w W → Calls Tryz.prog 75 #[.agg #[.slice A m c, .int .i64 secs], .agg #[.int .i64 p.ag, .int .i64 p.aa, .int .i64 p.bg, .int .i64 p.ba, .bool p.two, .int .i64 p.size, .int .i64 p.level, .int .i64 p.birth, .int .u64 p.s0, .int .u64 p.s1, .int .u64 p.s2, .int .u64 p.s3]] W fun e w' => e = .returned (.bool (rightB gs secs p)) ∧ Below W.heap.size W w') :=
    Lib.hid fun W hB => pright_any A m c gs secs p W (hg.below hB (Nat.le_refl _))
  by_cases hn : 0 ≤ n ∧ n ≤ 16384
  · rw [decide_eq_true hn, Bool.true_and] at HV
    obtain ⟨hn1, hn2⟩ := hn
    have HL := Lib.hid fun W => (level_any n W).mono (R' := fun e w' => e = .returned (.int .i64 (levN n)) ∧ w' = W) fun e w' h => ⟨h.1, h.2.symm⟩
    have hRT : Hid (∀ W, Below w0.heap.size w0 W → Calls Tryz.prog 75 #[.agg #[.slice A m c, .int .i64 secs], .agg #[.int .i64 p.ag, .int .i64 p.aa, .int .i64 p.bg, .int .i64 p.ba, .bool p.two, .int .i64 p.size, .int .i64 p.level, .int .i64 p.birth, .int .u64 p.s0, .int .u64 p.s1, .int .u64 p.s2, .int .u64 p.s3]] W fun e w' => e = .returned (.bool (rightB gs secs p)) ∧ Below W.heap.size W w') :=
      Lib.hid fun W hB => HRT.out W (hb0.trans (hB.mono hb0.size))
    clear HRT
    have HRT := hRT
    clear hRT
    go_enter Tryz.func35, Tryz.ntmps35
    repeat' (first
      | go_values
      | go_skip
      | go_guarded
      | ((fail_if_success (with_reducible refine drawn_mark ?_))
         first
           | go_step
           | go_upon
           | go_back
           | (simp only [Int.not_lt, Int.not_le] at *; go_simp)
           | (go_values <;> (try go_simp))
           | (go_ite <;> go_prune <;> (try go_simp))
           | (split <;> (first | (rename_i hx; exact (hx _ rfl).elim) | go_prune))))
    rw [← hw0]
    clear hw0
    obtain ⟨C, hC, hC0, hCB, hCK, hCd⟩ := cls_below w0
    have hPC : ∀ W, C W → PtrAt W (w.heap.size + 1) 1 p := fun W h => HP0.out.keep (hCB W h) (by omega)
    have f0 : ∀ W, C W → W.cell? ⟨w.heap.size + 1, 1, none⟩ = some (.int .i64 p.ag) := fun W h => (hPC W h).1
    have f1 : ∀ W, C W → W.cell? ⟨w.heap.size + 1, 2, none⟩ = some (.int .i64 p.aa) := fun W h => (hPC W h).2.1
    have f2 : ∀ W, C W → W.cell? ⟨w.heap.size + 1, 3, none⟩ = some (.int .i64 p.bg) := fun W h => (hPC W h).2.2.1
    have f3 : ∀ W, C W → W.cell? ⟨w.heap.size + 1, 4, none⟩ = some (.int .i64 p.ba) := fun W h => (hPC W h).2.2.2.1
    have f4 : ∀ W, C W → W.cell? ⟨w.heap.size + 1, 5, none⟩ = some (.bool p.two) := fun W h => (hPC W h).2.2.2.2.1
    have f5 : ∀ W, C W → W.cell? ⟨w.heap.size + 1, 6, none⟩ = some (.int .i64 p.size) := fun W h => (hPC W h).2.2.2.2.2.1
    have f6 : ∀ W, C W → W.cell? ⟨w.heap.size + 1, 7, none⟩ = some (.int .i64 p.level) := fun W h => (hPC W h).2.2.2.2.2.2.1
    have f7 : ∀ W, C W → W.cell? ⟨w.heap.size + 1, 8, none⟩ = some (.int .i64 p.birth) := fun W h => (hPC W h).2.2.2.2.2.2.2.1
    have f8 : ∀ W, C W → W.cell? ⟨w.heap.size + 1, 9, none⟩ = some (.int .u64 p.s0) := fun W h => (hPC W h).2.2.2.2.2.2.2.2.1
    have f9 : ∀ W, C W → W.cell? ⟨w.heap.size + 1, 10, none⟩ = some (.int .u64 p.s1) := fun W h => (hPC W h).2.2.2.2.2.2.2.2.2.1
    have f10 : ∀ W, C W → W.cell? ⟨w.heap.size + 1, 11, none⟩ = some (.int .u64 p.s2) := fun W h => (hPC W h).2.2.2.2.2.2.2.2.2.2.1
    have f11 : ∀ W, C W → W.cell? ⟨w.heap.size + 1, 12, none⟩ = some (.int .u64 p.s3) := fun W h => (hPC W h).2.2.2.2.2.2.2.2.2.2.2
    have fn : ∀ W, C W → W.cell? ⟨w.heap.size + 1, 0, none⟩ = some (.int .i64 n) := fun W h => keep_cell (hCB W h) k3 (by omega)
    have fg0 : ∀ W, C W → W.cell? ⟨w.heap.size, 0, none⟩ = some (.slice A m c) := fun W h => keep_cell (hCB W h) k1 (by omega)
    have fg1 : ∀ W, C W → W.cell? ⟨w.heap.size, 1, none⟩ = some (.int .i64 secs) := fun W h => keep_cell (hCB W h) k2 (by omega)
    clear k1 k2 k3
    generalize levN n = L at *
    cases hno : noneB p with
    | true =>
      rw [hno] at HNO HV
      clear hno
      refine wp_region_cls C (by kernel_rfl) (by kernel_rfl) hC ?_
      repeat (first
        | go_big_quiet_skip
        | (go_big_quiet_want
           go_big_quiet_op
           first
             | go_big_quiet_on
             | (apply Exists.intro
                refine ⟨fun W hW => ?_, ?_⟩
                · first
                    | exact rfl
                    | exact ⟨rfl, rfl⟩
                    | (have e0 := f0 W hW; have e1 := f1 W hW; have e2 := f2 W hW; have e3 := f3 W hW; have e4 := f4 W hW; have e5 := f5 W hW; have e6 := f6 W hW; have e7 := f7 W hW; have e8 := f8 W hW; have e9 := f9 W hW; have e10 := f10 W hW; have e11 := f11 W hW; have e12 := fn W hW; have e13 := fg0 W hW; have e14 := fg1 W hW; simp only [e0, e1, e2, e3, e4, e5, e6, e7, e8, e9, e10, e11, e12, e13, e14, Result.andThen_ok]; done)
                    | (have e0 := f0 W hW; have e1 := f1 W hW; have e2 := f2 W hW; have e3 := f3 W hW; have e4 := f4 W hW; have e5 := f5 W hW; have e6 := f6 W hW; have e7 := f7 W hW; have e8 := f8 W hW; have e9 := f9 W hW; have e10 := f10 W hW; have e11 := f11 W hW; have e12 := fn W hW; have e13 := fg0 W hW; have e14 := fg1 W hW; simp only [e0, e1, e2, e3, e4, e5, e6, e7, e8, e9, e10, e11, e12, e13, e14, Result.andThen_ok]; first | exact ⟨trivial, rfl⟩ | exact rfl | exact ⟨rfl, rfl⟩)
                    | ((first | (go_at_call 74; refine (HNO.out W).mono ?_) | (go_at_call 75; refine (HRT.out W (hCB W hW)).mono ?_)); rintro e w' ⟨rfl, hb⟩; exact ⟨rfl, hCK _ _ hW hb⟩)
                    | ((go_at_call 76; refine (HL.out W).mono ?_; rintro e w' ⟨rfl, rfl⟩; exact ⟨rfl, hW⟩))
                go_big_quiet_on)))
      refine wpQuiet_nil ?_
      intro v4 hv4
      have hwB := hCB v4 hv4
      go_wp2_with fail
      go_ret
      exact ⟨ret_bool (by first | exact HV.out.symm | (rw [HV.out]; simp; done) | (rw [HV.out, Bool.eq_iff_iff]; simp)), keep_below hwB hb0⟩
    | false =>
      rw [hno] at HNO HV
      clear hno
      cases hr : rightB gs secs p with
      | true =>
        rw [hr] at HRT HV
        clear hr
        refine wp_region_cls C (by kernel_rfl) (by kernel_rfl) hC ?_
        repeat (first
          | go_big_quiet_skip
          | (go_big_quiet_want
             go_big_quiet_op
             first
               | go_big_quiet_on
               | (apply Exists.intro
                  refine ⟨fun W hW => ?_, ?_⟩
                  · first
                      | exact rfl
                      | exact ⟨rfl, rfl⟩
                      | (have e0 := f0 W hW; have e1 := f1 W hW; have e2 := f2 W hW; have e3 := f3 W hW; have e4 := f4 W hW; have e5 := f5 W hW; have e6 := f6 W hW; have e7 := f7 W hW; have e8 := f8 W hW; have e9 := f9 W hW; have e10 := f10 W hW; have e11 := f11 W hW; have e12 := fn W hW; have e13 := fg0 W hW; have e14 := fg1 W hW; simp only [e0, e1, e2, e3, e4, e5, e6, e7, e8, e9, e10, e11, e12, e13, e14, Result.andThen_ok]; done)
                      | (have e0 := f0 W hW; have e1 := f1 W hW; have e2 := f2 W hW; have e3 := f3 W hW; have e4 := f4 W hW; have e5 := f5 W hW; have e6 := f6 W hW; have e7 := f7 W hW; have e8 := f8 W hW; have e9 := f9 W hW; have e10 := f10 W hW; have e11 := f11 W hW; have e12 := fn W hW; have e13 := fg0 W hW; have e14 := fg1 W hW; simp only [e0, e1, e2, e3, e4, e5, e6, e7, e8, e9, e10, e11, e12, e13, e14, Result.andThen_ok]; first | exact ⟨trivial, rfl⟩ | exact rfl | exact ⟨rfl, rfl⟩)
                      | ((first | (go_at_call 74; refine (HNO.out W).mono ?_) | (go_at_call 75; refine (HRT.out W (hCB W hW)).mono ?_)); rintro e w' ⟨rfl, hb⟩; exact ⟨rfl, hCK _ _ hW hb⟩)
                      | ((go_at_call 76; refine (HL.out W).mono ?_; rintro e w' ⟨rfl, rfl⟩; exact ⟨rfl, hW⟩))
                  go_big_quiet_on)))
        refine wpQuiet_nil ?_
        intro v4 hv4
        have hwB := hCB v4 hv4
        go_wp2_with fail
        go_ret
        exact ⟨ret_bool (by first | exact HV.out.symm | (rw [HV.out]; simp; done) | (rw [HV.out, Bool.eq_iff_iff]; simp)), keep_below hwB hb0⟩
      | false =>
        rw [hr] at HRT HV
        clear hr
        refine wp_region_cls C (by kernel_rfl) (by kernel_rfl) hC ?_
        repeat (first
          | go_big_quiet_skip
          | (go_big_quiet_want
             go_big_quiet_op
             first
               | go_big_quiet_on
               | (apply Exists.intro
                  refine ⟨fun W hW => ?_, ?_⟩
                  · first
                      | exact rfl
                      | exact ⟨rfl, rfl⟩
                      | (have e0 := f0 W hW; have e1 := f1 W hW; have e2 := f2 W hW; have e3 := f3 W hW; have e4 := f4 W hW; have e5 := f5 W hW; have e6 := f6 W hW; have e7 := f7 W hW; have e8 := f8 W hW; have e9 := f9 W hW; have e10 := f10 W hW; have e11 := f11 W hW; have e12 := fn W hW; have e13 := fg0 W hW; have e14 := fg1 W hW; simp only [e0, e1, e2, e3, e4, e5, e6, e7, e8, e9, e10, e11, e12, e13, e14, Result.andThen_ok]; done)
                      | (have e0 := f0 W hW; have e1 := f1 W hW; have e2 := f2 W hW; have e3 := f3 W hW; have e4 := f4 W hW; have e5 := f5 W hW; have e6 := f6 W hW; have e7 := f7 W hW; have e8 := f8 W hW; have e9 := f9 W hW; have e10 := f10 W hW; have e11 := f11 W hW; have e12 := fn W hW; have e13 := fg0 W hW; have e14 := fg1 W hW; simp only [e0, e1, e2, e3, e4, e5, e6, e7, e8, e9, e10, e11, e12, e13, e14, Result.andThen_ok]; first | exact ⟨trivial, rfl⟩ | exact rfl | exact ⟨rfl, rfl⟩)
                      | ((first | (go_at_call 74; refine (HNO.out W).mono ?_) | (go_at_call 75; refine (HRT.out W (hCB W hW)).mono ?_)); rintro e w' ⟨rfl, hb⟩; exact ⟨rfl, hCK _ _ hW hb⟩)
                      | ((go_at_call 76; refine (HL.out W).mono ?_; rintro e w' ⟨rfl, rfl⟩; exact ⟨rfl, hW⟩))
                  go_big_quiet_on)))
        refine wpQuiet_nil ?_
        intro v4 hv4
        have hwB := hCB v4 hv4
        go_wp2_with fail
        go_ret
        exact ⟨ret_bool (by first | exact HV.out.symm | (rw [HV.out]; simp; done) | (rw [HV.out, Bool.eq_iff_iff]; simp)), keep_below hwB hb0⟩
  · have hv : Hid (nRightB gs secs n p = false) := by unfold Hid; rw [HV.out, decide_eq_false hn]; rfl
    have hn' : n < 0 ∨ (0 ≤ n ∧ 16384 < n) := by omega
    clear hn
    rcases hn' with hn | ⟨hn, hn2⟩
    all_goals
      go_enter Tryz.func35, Tryz.ntmps35
      go_wp2_with fail
      all_goals go_ret
      all_goals exact ⟨ret_bool hv.out.symm, by rw [← hw0]; exact hb0⟩
end Go.Proofs.YtlpbbjjibnbooaaGreatDoor

namespace Go.Proofs.YtlpbbjjibnbooaaGreatDoor
set_option linter.unusedVariables false
set_option linter.unusedSimpArgs false
open Go.RowKit

/-- A text's words, and its sum. -/
def wordsP (P : List UInt8) : List Nat := (List.range (P.length / 4)).map fun k => rdN P (4 * k) 4
def wordsL (s : List UInt8) : List Nat := wordsP (padL s 4)
def M64 : Nat := 18446744073709551616
def fstep (x : Nat × Nat × Nat × Nat) (w : Nat) : Nat × Nat × Nat × Nat :=
  ((x.1 + w) % M64, (x.2.1 + (x.1 + w) % M64) % M64, (x.2.2.1 + (x.2.1 + (x.1 + w) % M64) % M64) % M64, (x.2.2.2 + (x.2.2.1 + (x.2.1 + (x.1 + w) % M64) % M64) % M64) % M64)
def fsum (s : List UInt8) : Nat × Nat × Nat × Nat := (wordsL s).foldl fstep (0, 0, 0, 0)
abbrev fcells (x : Nat × Nat × Nat × Nat) : Array Value := #[.int .u64 x.1, .int .u64 x.2.1, .int .u64 x.2.2.1, .int .u64 x.2.2.2]
theorem keepF {W W' : World} {b o : Nat} {v : Value} (h : W.cell? ⟨b, o, none⟩ = some v) (hb : Below W.heap.size W W') : W'.cell? ⟨b, o, none⟩ = some v :=
  (World.cell?_of_block (hb.block b (World.block_lt_of_cell? W _ h))).trans h
end Go.Proofs.YtlpbbjjibnbooaaGreatDoor

namespace Go.Proofs.YtlpbbjjibnbooaaGreatDoor
set_option linter.unusedVariables false
set_option linter.unusedSimpArgs false
open Go.RowKit

/-- What is said abides whatever turns from block B on. -/
def Firm {β : Type} (B : Nat) (I : β → World → Prop) : Prop := ∀ s W W' row, I s W → W.grownBy W' row → (∀ r, row = some r → B ≤ r) → I s W'
/-- What is said abides cells that turn from block B on. -/
def FirmC {β : Type} (B : Nat) (J : β → World → Prop) : Prop := ∀ s W W' row, J s W → W.grownBy W' row → (∀ r, row = some r → B ≤ r ∧ ∃ o : Obj, W.heap[r]? = some o ∧ o.isCells = true) → J s W'
theorem FirmC.mono {β : Type} {B B' : Nat} {J : β → World → Prop} (h : FirmC B J) (hB : B ≤ B') : FirmC B' J := fun s W W' row hs hg hr => h s W W' row hs hg fun r e => ⟨Nat.le_trans hB (hr r e).1, (hr r e).2⟩
theorem FirmC.below {β : Type} {B : Nat} {J : β → World → Prop} (h : FirmC B J) {s : β} {W W' : World} (hs : J s W) (hb : Below W.heap.size W W') : J s W' :=
  h s W W' none hs ⟨hb.os, hb.tape, hb.output, hb.size, fun i hi _ => hb.block i hi⟩ (fun r e => by cases e)
/-- An iterator that gives just these, and then returns. -/
def SeqCells {α : Type} (F : Fence) (n : Nat) (P : Program) (g : Nat) (lb : Array Value) (encs : α → Array Value) (Kp : World → World → Prop) (xs : List α) (w : World) : Prop :=
  ∀ (l : Nat) (J : List α → World → Prop) (W : World), Below w.heap.size w W → FirmC W.heap.size J →
    (∀ pre x W1, J pre W1 → pre ++ [x] <+: xs → YieldAt F (n - 1) P l (encs x) W1 fun e W' => e = .returned (.bool true) ∧ J (pre ++ [x]) W' ∧ Kp W1 W') →
    J [] W → CallsIn F n P g (#[.func (.yield l) #[] #[]] ++ lb) W fun e W' => (∃ v, e = .returned v) ∧ J xs W'
/-- How a round ends. -/
def roundEnd {α : Type} (B : Nat) (Kp : World → World → Prop) (I : List α → World → Prop) (pre : List α) (W : World) : Exit → Act → World → Prop
  | .normal, _, W' => KeepsFrom B W W' ∧ Kp W W' ∧ I pre W'
  | _, _, _ => False
variable {F : Fence} {n : Nat} {P : Program}
theorem wpIn_range_cells {α : Type} {g : Operand} {ps : Array Tmp} {assign body : Code} {Q : Exit → Act → World → Prop} {a : Act} {w : World} (hro : F.round = none) (h1 : 1 ≤ n) {gf : Nat} {lb : Array Value}
    (hg : a.eval g = .func (.func gf) #[] lb) (hFg : F.fn gf) (eg : ∀ args w, (callFunc gf args).run P w = .ok (.enter gf args) w) {encs : α → Array Value} {Kp : World → World → Prop} {xs : List α} (hseq : SeqCells F (n - 1) P gf lb encs Kp xs w)
    (hKt : ∀ {A B C : World}, Kp A B → Kp B C → Kp A C) (hKb : ∀ (W : World) (l : Nat) (o o' : Obj), W.heap[l]? = some o → o.isCells = false → Kp W (W.putObj l o')) (hps : ∀ x, (encs x).size = ps.size)
    (I : List α → World → Prop) (hI : Firm w.heap.size I) (h0 : I [] w) (a₁ : α → Act)
    (hassign : ∀ (l : Nat) (x : α) (W : World) (K : Act → World → Prop), K (a₁ x) W →
      assign.wpIn (F.inRound l) (n - 1 - 1) P (Exit.then K (fun _ _ _ => False)) { tmps := (ps.zip (encs x)).foldl (fun t (p, v) => t.setIfInBounds p v) a.tmps, defers := [] } W)
    (hbody : ∀ (l : Nat) (pre : List α) (x : α) (W : World), I pre W → pre ++ [x] <+: xs → body.wpIn (F.inRound l) (n - 1 - 1) P (roundEnd w.heap.size Kp I (pre ++ [x]) W) (a₁ x) W)
    (hdone : ∀ (D : Nat) (W : World), w.heap.size ≤ D → I xs W → W.heap[D]? = some (.deferred (some [])) → Q .normal { a with defers := { target := .collected D, args := #[] } :: a.defers } W) :
    (Code.rangeFunc g ps assign body).wpIn F n P Q a w := by
  refine wpIn_rangeFunc fun fn hfn => ?_
  rw [hro]
  let L : LoopState → Loop := fun st => { state := st, pending := none, fn, tmps := a.tmps, params := ps, assign, body, defers := w.heap.size }
  let V : World := (w.alloc (.deferred (some []))).alloc (.loop (L .ready))
  have vl : V.heap[w.heap.size + 1]? = some (.loop (L .ready)) := by
    have := World.alloc_heap_new (w.alloc (.deferred (some []))) (.loop (L .ready))
    rwa [World.size_alloc] at this
  have vd : V.heap[w.heap.size]? = some (.deferred (some [])) := (Below.heap_alloc _ _ _ (by simp)).trans (World.alloc_heap_new w _)
  have vb : Below w.heap.size w V := ((Below.refl _ w).alloc (Nat.le_refl _) _).alloc (by simp) _
  have vs : V.heap.size = w.heap.size + 2 := by simp [V]
  have vi : I [] V := hI _ _ _ none h0 ⟨vb.os, vb.tape, vb.output, vb.size, fun i hi _ => vb.block i hi⟩ (fun r e => by cases e)
  have put : ∀ {s : List α} {W : World} {o o' : Obj}, I s W → I s (W.putObj (w.heap.size + 1) o') := fun {s W o o'} hs => hI s W _ (some (w.heap.size + 1)) hs (grownBy_putObj' W _ o') (fun r e => by cases e; omega)
  refine ⟨w.heap.size + 1, [{ target := .collected w.heap.size, args := #[] }], V, { target := .fn (.func gf) lb, args := #[.func (.yield (w.heap.size + 1)) #[] #[]] }, V, gf,
    #[.func (.yield (w.heap.size + 1)) #[] #[]] ++ lb, V, run_enterLoop_outer _ _ _ _ _, by simp only [resolve, hg]; simp [go_sem], fun f' hf' => by simp [Target.leads] at hf'; subst hf'; exact hFg, by simp [invoke, go_sem, eg], fun _ => h1, ?_⟩
  have firm : FirmC V.heap.size fun (pre : List α) W => I pre W ∧ W.heap[w.heap.size + 1]? = some (.loop (L .ready)) ∧ W.heap[w.heap.size]? = some (.deferred (some [])) := by
    rintro s A B row ⟨i1, i2, i3⟩ hgr hr
    have hne : ∀ r, row = some r → w.heap.size + 2 ≤ r := fun r e => by have := (hr r e).1; omega
    refine ⟨hI s A B row i1 hgr fun r e => by have := hne r e; omega, (hgr.block _ (Array.getElem?_eq_some_iff.1 i2).1 fun e => ?_).trans i2, (hgr.block _ (Array.getElem?_eq_some_iff.1 i3).1 fun e => ?_).trans i3⟩
    · have := hne _ e.symm; omega
    · have := hne _ e.symm; omega
  refine (hseq (w.heap.size + 1) _ V vb firm ?_ ⟨vi, vl, vd⟩).mono ?_
  · rintro pre x W ⟨i1, i2, i3⟩ hpre
    have hlt : w.heap.size + 1 < W.heap.size := (Array.getElem?_eq_some_iff.1 i2).1
    refine ⟨fn, _, assign, body, run_yield (args := encs x) i2 (hps x), roundIn_of_wpIn hfn (hassign _ x W _ ⟨_, run_beginRound i2 rfl, ?_⟩)⟩
    have j2 : (W.putObj (w.heap.size + 1) (.loop (L .busy))).heap[w.heap.size + 1]? = some (.loop (L .busy)) := World.putObj_heap_same hlt
    have j3 : (W.putObj (w.heap.size + 1) (.loop (L .busy))).heap[w.heap.size]? = some (.deferred (some [])) := (World.putObj_heap_other (by omega)).trans i3
    refine wpIn_mono (hbody _ pre x _ (put (o := .loop (L .ready)) i1) hpre) ?_
    intro e a3 W3 hp
    cases e with
    | normal =>
      obtain ⟨k1, k2, k3⟩ := hp
      have m2 := k1.same _ _ (by omega) j2 rfl
      have m3 := k1.same _ _ (Nat.le_refl _) j3 rfl
      exact ⟨_, _, run_endRound none m2, ⟨rfl, ⟨put (o := .loop (L .busy)) k3, World.putObj_heap_same (Array.getElem?_eq_some_iff.1 m2).1, (World.putObj_heap_other (by omega)).trans m3⟩,
        hKt (hKt (hKb _ _ _ _ i2 rfl) k2) (hKb _ _ _ _ m2 rfl)⟩⟩
    | ret => exact hp.elim
    | exit id => exact hp.elim
    | goto t => exact hp.elim
    | panic c => exact hp.elim
    | outgrown => exact hp.elim
  · rintro e W2 ⟨⟨v, rfl⟩, i1, i2, i3⟩
    exact ⟨none, _, run_endLoop i2 (by simp), hdone _ _ (Nat.le_refl _) (put (o := .loop (L .ready)) i1) ((World.putObj_heap_other (by omega)).trans i3)⟩
end Go.Proofs.YtlpbbjjibnbooaaGreatDoor

namespace Go.Proofs.YtlpbbjjibnbooaaGreatDoor
set_option linter.unusedVariables false
set_option linter.unusedSimpArgs false
open Go.RowKit

/-- A fence that lets all by. -/
structure Wide (F : Fence) : Prop where
  fn : ∀ f, F.fn f
  depth : F.depth = none
  calls : ∀ {n : Nat} {P : Program} {f : FuncId} {args : Array Value} {w : World} {R : Ending → World → Prop}, Calls P f args w R → CallsIn F n P f args w R
  rows : ∀ {n : Nat} {P : Program} {row : String} {args : Array Value} {w : World} {R : Value → World → Prop}, Rows P row args w R → RowsIn F n P row args w R
theorem Wide.inRound {F : Fence} (h : Wide F) (l : Nat) : Wide (F.inRound l) := ⟨h.fn, h.depth, fun hh => CallsIn.inRound l (h.calls hh), fun hh => h.rows hh⟩
section
variable {F : Fence} {m : Nat} {P : Program} {ops : Array Oper} {md : Region.Mode} {S : World → Prop} {eff : Nat → Bool}
/-- What is still to come: it is not looked into. -/
structure Held (p : Prop) : Prop where
  out : p
end
end Go.Proofs.YtlpbbjjibnbooaaGreatDoor

namespace Go.Proofs.YtlpbbjjibnbooaaGreatDoor
set_option linter.unusedVariables false
set_option linter.unusedSimpArgs false
open Go.RowKit
attribute [local go_sem] Oper.semAt_some

/-- Blocks of cells are kept, but those of V. -/
def KB (V : Nat → Prop) (W W' : World) : Prop := W.heap.size ≤ W'.heap.size ∧ ∀ b t cs, ¬ V b → Blk W b t cs → Blk W' b t cs
theorem KB.trans {V : Nat → Prop} {A B C : World} (h : KB V A B) (k : KB V B C) : KB V A C := ⟨Nat.le_trans h.1 k.1, fun b t cs hn hb => k.2 b t cs hn (h.2 b t cs hn hb)⟩
theorem kb_putObj {V : Nat → Prop} (W : World) (l : Nat) (o o' : Obj) (hl : W.heap[l]? = some o) (ho : o.isCells = false) : KB V W (W.putObj l o') :=
  ⟨by simp, fun b t cs _ hb => (World.putObj_heap_other (fun e => by subst e; unfold Blk at hb; rw [hb] at hl; cases hl; cases ho)).trans hb⟩
def wordE (x : Nat) : Array Value := #[.int .u64 x]
/-- Where a reader stands. -/
def posW (W : World) (b : Nat) : Nat := match W.cell? ⟨b, 1, none⟩ with
  | some (.int _ p) => p.toNat
  | _ => 0
theorem posW_at {W : World} {b p : Nat} {l : List UInt8} (h : RdAt W b l p) : posW W b = p := by unfold posW; rw [h.c1]; rfl
theorem padL_4 (s : List UInt8) : (padL s 4).length % 4 = 0 ∧ (padL s 4).length ≤ s.length + 3 := by
  unfold padL
  rw [if_pos (by omega), List.length_append, List.length_replicate]
  unfold padN
  have : ((4 : Int).toNat) = 4 := rfl
  rw [this]
  omega
theorem words_len (s : List UInt8) : (wordsL s).length = (padL s 4).length / 4 := by simp [wordsL, wordsP]
theorem words_at {s : List UInt8} {k : Nat} (hk : k < (wordsL s).length) : (wordsL s)[k]? = some (rdN (padL s 4) (4 * k) 4) := by
  rw [words_len] at hk
  unfold wordsL wordsP
  rw [List.getElem?_map, List.getElem?_range hk]
  rfl
theorem words_lt {s : List UInt8} : ∀ x ∈ wordsL s, x < 4294967296 := by
  intro x hx
  unfold wordsL wordsP at hx
  obtain ⟨k, _, rfl⟩ := List.mem_map.1 hx
  have := rdN_lt (padL s 4) (4 * k) 4
  omega
set_option maxRecDepth 20000 in
set_option maxHeartbeats 1000000 in
theorem words_seq (n : Nat) {w : World} {V : Nat → Prop} {b0 : Nat} {s : List UInt8} (h0 : w.cell? ⟨b0, 0, none⟩ = some (str s)) (hl : s.length ≤ 140737488351000) (hV : ∀ b, V b → b < w.heap.size) :
    SeqCells Fence.wide n Tryz.prog 126 #[.pointer (some ⟨b0, 0, none⟩)] wordE (KB V) (wordsL s) w := by
  intro l J W hb hJ hY hJ0
  have c0 := keepF h0 hb
  have HPD := Lib.hid (pad_any s 4 W (by omega))
  have hp4 := padL_4 s
  obtain ⟨P, hP⟩ : ∃ P, padL s 4 = P := ⟨_, rfl⟩
  have hwl := words_len s
  have hwa := fun k (hk : k < (wordsL s).length) => words_at hk
  rw [hP] at HPD hp4 hwl hwa
  have HV : Hid (∀ b, V b → b < W.heap.size) := Lib.hid fun b h => Nat.lt_of_lt_of_le (hV b h) hb.size
  have HJ := Lib.hid hJ
  have HY := Lib.hid hY
  have HJ0 := Lib.hid hJ0
  obtain ⟨ws, hws⟩ : ∃ ws, wordsL s = ws := ⟨_, rfl⟩
  have hlt := @words_lt s
  rw [hws] at hwl hwa HY hlt
  rw [hws]
  have HW := Lib.hid (And.intro hwl (And.intro hwa hlt))
  obtain ⟨hp41, hp42⟩ := hp4
  have hPl : P.length ≤ 140737488351232 := by omega
  clear h0 hV hb hJ hY hJ0 hwl hwa hlt hws hP
  show CallsIn Fence.wide n Tryz.prog 126 #[.func (.yield l) #[] #[], .pointer (some ⟨b0, 0, none⟩)] W _
  refine callsIn_of_wp Tryz.func126 rfl trivial ?_ rfl
  simp only [Tryz.ntmps126, List.size_toArray, List.length_cons, List.length_nil, Nat.reduceAdd, Nat.reduceSub, Array.replicate_succ, Array.replicate_zero, List.push_toArray, List.append_toArray, List.nil_append, List.cons_append]
  gi_wp2_with fail
  refine ⟨trivial, fun h => (by cases h), callsIn_wide.2 (HPD.out.mono ?_)⟩
  rintro e w1 ⟨rfl, hb1⟩
  have HB1 := Lib.hid hb1
  have HNW := Lib.hid (new_any P w1 hPl)
  clear hb1
  gi_wp2_with fail
  refine ⟨trivial, fun h => (by cases h), callsIn_wide.2 (HNW.out.mono ?_)⟩
  rintro e w2 ⟨rfl, hR2, hb2⟩
  have HB2 := Lib.hid (keep_below hb2 HB1.out)
  have HR2 := Lib.hid hR2
  obtain ⟨rb, hrb⟩ : ∃ rb, w1.heap.size = rb := ⟨_, rfl⟩
  have hge : W.heap.size ≤ rb := by rw [← hrb]; exact HB1.out.size
  rw [hrb] at HR2
  rw [hrb]
  have HRB := Lib.hid hge
  clear hb2 hR2 hrb hge
  gi_wp2_with fail
  gi_loopw [4] (fun _ wr => ∃ k : Nat, k ≤ ws.length ∧ RdAt wr rb P (4 * k) ∧ J (ws.take k) wr ∧ W.heap.size ≤ wr.heap.size) (fun _ wr => P.length - posW wr rb)
  case atStart => exact ⟨0, Nat.zero_le _, HR2.out, HJ.out.below HJ0.out HB2.out, HB2.out.size⟩
  case round =>
    obtain ⟨k, hk, hrd, hj, hsz⟩ := hrel
    have HK := Lib.hid (And.intro hrd (And.intro hj hsz))
    have HLF := Lib.hid (left_any rb (4 * k) P wr hrd)
    have hwl := HW.out.1
    clear hrd hj hsz
    by_cases hlt : k < ws.length
    · have hd1 : decide (4 * (k : Int) < (P.length : Int)) = true := decide_eq_true (by omega)
      have HKL := Lib.hid hlt
      clear hlt hwl
      gi_wp2_with fail
      refine ⟨trivial, fun h => (by cases h), callsIn_wide.2 (HLF.out.mono ?_)⟩
      rintro e w3 ⟨rfl, j, rfl⟩
      have hrd3 := HK.out.1.drewN j
      have HU := Lib.hid (rU32_any rb (4 * k) P _ hrd3)
      have hle4 : 4 * k + 4 ≤ P.length := by have := HW.out.1; have := HKL.out; omega
      have hnp : nbPos P (4 * k) 4 = 4 * (k + 1) := by unfold nbPos; rw [if_neg (by omega)]; omega
      have hxl : rdN P (4 * k) 4 < 4294967296 := by have := rdN_lt P (4 * k) 4; omega
      have hwk := HW.out.2.1 k HKL.out
      rw [hnp] at HU
      obtain ⟨x, hx⟩ : ∃ x, rdN P (4 * k) 4 = x := ⟨_, rfl⟩
      obtain ⟨ne, hne⟩ : ∃ ne, nbErr P (4 * k) 4 = ne := ⟨_, rfl⟩
      rw [hx] at HU hxl hwk
      rw [hne] at HU
      have hJ3 : J (ws.take k) (wr.drewN j) := HJ.out.below HK.out.2.1 ⟨rfl, rfl, rfl, Nat.le_refl _, fun _ _ => rfl⟩
      have HJ3 := Lib.hid hJ3
      have HRD3 := Lib.hid hrd3
      have HTK : Hid (ws.take (k + 1) = ws.take k ++ [x]) := Lib.hid (by rw [List.take_add_one, hwk]; rfl)
      clear hrd3 hJ3 hwk hx hne hnp hd1
      gi_wp2_with fail
      refine ⟨trivial, fun h => (by cases h), callsIn_wide.2 (HU.out.mono ?_)⟩
      rintro e w4 ⟨rfl, hrd4, hg4⟩
      have hszd : (wr.drewN j).heap.size = wr.heap.size := rfl
      have hJ4 : J (ws.take k) w4 := HJ.out _ (wr.drewN j) w4 (some rb) HJ3.out hg4 fun r e => by
        cases e
        exact ⟨HRB.out, _, HRD3.out.1, rfl⟩
      obtain ⟨fn, tmps, assign, body, hy, hR⟩ := HY.out (ws.take k) x w4 hJ4 (by rw [← HTK.out]; exact List.take_prefix _ _)
      dsimp only [wordE] at hy
      have HR := Lib.hid hR
      have HRD4 := Lib.hid (And.intro hrd4 (Nat.le_trans HK.out.2.2 (show wr.heap.size ≤ w4.heap.size from hg4.size)))
      clear hrd4 hg4 hJ4 hR hszd HU
      gi_wp2_with fail
      refine ⟨fun h => (by cases h), HR.out.mono ?_⟩
      rintro e w5 ⟨rfl, hJ5, hk5⟩
      have hrd5 : RdAt w5 rb P (4 * (k + 1)) := ⟨hk5.2 rb _ _ (fun h => by have := HV.out rb h; have := HRB.out; omega) HRD4.out.1.1, HRD4.out.1.2⟩
      have HKF := Lib.hid (And.intro hrd5 (And.intro hJ5 (Nat.le_trans HRD4.out.2 hk5.1)))
      clear hrd5 hJ5 hk5 hy
      gi_wp2_with fail
      go_roundw
      case rel => exact ⟨k + 1, HKL.out, HKF.out.1, by rw [HTK.out]; exact HKF.out.2.1, HKF.out.2.2⟩
      case measure => rw [posW_at HKF.out.1, posW_at HK.out.1]; omega
    · obtain rfl : k = ws.length := by omega
      have hd1 : decide (4 * (ws.length : Int) < (P.length : Int)) = false := decide_eq_false (by omega)
      clear hlt hwl
      gi_wp2_with fail
      refine ⟨trivial, fun h => (by cases h), callsIn_wide.2 (HLF.out.mono ?_)⟩
      rintro e w3 ⟨rfl, j, rfl⟩
      have HJF : Hid (J ws (wr.drewN j)) := Lib.hid (by
        have : J (ws.take ws.length) (wr.drewN j) := HJ.out.below HK.out.2.1 ⟨rfl, rfl, rfl, Nat.le_refl _, fun _ _ => rfl⟩
        rwa [List.take_length] at this)
      gi_wp2_with fail
      go_end0
      exact ⟨⟨_, rfl⟩, HJF.out⟩
end Go.Proofs.YtlpbbjjibnbooaaGreatDoor
