/-
  The walk of PtrPlaces.
-/
import Derived.Test.YtnagcmfecggllaaPtr4
import Derived.Test.YtnagcmfecggllaaPtrOrderW
namespace Go.Proofs.Ytnagcmfecggllaa
open Go.RowKit
set_option linter.unusedVariables false

theorem neq_place (a b c e : Int) (w : World) : (binOp .neq 23 (.agg #[.int .i64 a, .int .i64 b]) (.agg #[.int .i64 c, .int .i64 e])).run Try.prog w = .ok (.bool (!(a == c && b == e))) w := by
  rw [run_neq_struct, run_equalIn_struct w 9999 _ _ _ (by kernel_rfl) Try.stoodPlace]
  simp [go_sem, Try.underlying23]
  by_cases h1 : a = c <;> by_cases h2 : b = e <;> simp [h1, h2]
theorem placesN_le (p : PtrD) : placesN p ≤ 2 := by
  unfold placesN
  cases noneB p <;> cases p.two <;> decide
/-- ptr.Bytes, its two ways. -/
theorem pbytes_two (p : PtrD) (hok : p.Ok) : ∃ (s : List UInt8) (e : Int), (layOk p = true ∧ e = 0 ∧ s = ptrL p ∨ layOk p = false ∧ e = 1) ∧
    ∀ w, Calls Try.prog 7 #[.agg p.cells] w fun e' w' => e' = .returned (.tuple #[str s, .int .i64 e]) ∧ Below w.heap.size w w' := by
  refine ⟨if layOk p then ptrL p else [], if layOk p then 0 else 1, ?_, fun w => pbytes_any p w hok⟩
  cases layOk p <;> simp

set_option maxRecDepth 100000 in
set_option maxHeartbeats 4000000 in
theorem placesLaw_any (A : Option Addr) (n c : Nat) (gs : List (Int × Int)) (secs : Int) (p q : PtrD) (w : World) (hg : GeoAt w A n gs) (op : p.Ok) (oq : q.Ok) :
    Calls Try.prog 4 #[.agg #[.slice A n c, .int .i64 secs], .agg p.cells, .agg q.cells] w fun e w' => e = .returned (.bool true) ∧ Below w.heap.size w w' := by
  obtain ⟨w0, hw0⟩ : ∃ w0, w0 = (((w.alloc (Obj.cells #[Value.slice A n c, Value.int IntKind.i64 secs] 34)).alloc (.cells p.cells 28)).alloc (.cells q.cells 28)) := ⟨_, rfl⟩
  have hb0 : Below w.heap.size w w0 := by
    rw [hw0]; exact (((Below.refl _ _).alloc (Nat.le_refl _) _).alloc (by simp) _).alloc (by simp; omega) _
  have hs0 : w.heap.size + 3 ≤ w0.heap.size := by rw [hw0]; simp
  have HP0 : Hid (PtrAt w0 (w.heap.size + 1) 0 p) := by
    rw [hw0]
    have := (PtrAt.new (w.alloc (Obj.cells #[Value.slice A n c, Value.int IntKind.i64 secs] 34)) p 28).keep ((Below.refl _ _).alloc (Nat.le_refl _) (.cells q.cells 28)) (by simp)
    rw [World.size_alloc] at this
    exact Lib.hid this
  have HQ0 : Hid (PtrAt w0 (w.heap.size + 2) 0 q) := by
    rw [hw0]
    have := PtrAt.new ((w.alloc (Obj.cells #[Value.slice A n c, Value.int IntKind.i64 secs] 34)).alloc (.cells p.cells 28)) q 28
    rw [World.size_alloc, World.size_alloc] at this
    exact Lib.hid this
  have k1 : w0.cell? ⟨w.heap.size, 0, none⟩ = some (.slice A n c) := by rw [hw0]; exact cell_alloc (cell_alloc (cell_new rfl rfl) _) _
  have k2 : w0.cell? ⟨w.heap.size, 1, none⟩ = some (.int .i64 secs) := by rw [hw0]; exact cell_alloc (cell_alloc (cell_new rfl rfl) _) _
  go_enter Try.func4, Try.ntmps4
  go_wp2_with fail
  rw [← hw0]
  clear hw0
  refine (awake9_any _).mono ?_
  rintro e w1 ⟨rfl, hb1⟩
  have l1 := keep_cell hb1 k1 (by omega)
  have l2 := keep_cell hb1 k2 (by omega)
  have HP1 := Lib.hid (HP0.out.keep hb1 (by omega))
  have HQ1 := Lib.hid (HQ0.out.keep hb1 (by omega))
  have hb2 := hb0.trans (hb1.mono hb0.size)
  have hs1 := keep_size hb1 hs0
  clear HP0 HQ0 hb1 k1 k2
  by_cases hn : (100 : Int) < n
  · go_wp2_with fail
    refine (awake9_any _).mono ?_
    rintro e w2 ⟨rfl, hb3⟩
    go_wp2_with fail
    go_ret
    exact ⟨rfl, hb2.trans (hb3.mono hb2.size)⟩
  · have hn1 : (n : Int) ≤ 100 := by omega
    obtain ⟨sp, ep, hcp, hBP⟩ := pbytes_two p op
    obtain ⟨sq, eq, hcq, hBQ⟩ := pbytes_two q oq
    have HBP := Lib.hid hBP
    have HBQ := Lib.hid hBQ
    clear hBP hBQ
    have h := HP1.out
    obtain ⟨p0, p1, p2, p3, p4, p5, p6, p7, p8, p9, pa, pb⟩ := h
    simp only [Nat.zero_add] at p1 p2 p3 p4 p5 p6 p7 p8 p9 pa pb
    go_wp2_with fail
    refine (HBP.out _).mono ?_
    rintro e w2 ⟨rfl, hb3⟩
    have HP2 := Lib.hid (HP1.out.keep hb3 (by omega))
    have HQ2 := Lib.hid (HQ1.out.keep hb3 (by omega))
    have m1 := keep_cell hb3 l1 (by omega)
    have m2 := keep_cell hb3 l2 (by omega)
    have hb4 := hb2.trans (hb3.mono hb2.size)
    have hs2 := keep_size hb3 hs1
    clear p0 p1 p2 p3 p4 p5 p6 p7 p8 p9 pa pb HP1 HQ1 l1 l2 hb3
    have h := HQ2.out
    obtain ⟨p0, p1, p2, p3, p4, p5, p6, p7, p8, p9, pa, pb⟩ := h
    simp only [Nat.zero_add] at p1 p2 p3 p4 p5 p6 p7 p8 p9 pa pb
    go_wp2_with fail
    refine (HBQ.out _).mono ?_
    rintro e w3 ⟨rfl, hb3⟩
    have HP3 := Lib.hid (HP2.out.keep hb3 (by omega))
    have HQ3 := Lib.hid (HQ2.out.keep hb3 (by omega))
    have n1 := keep_cell hb3 m1 (by omega)
    have n2 := keep_cell hb3 m2 (by omega)
    have hb5 := hb4.trans (hb3.mono hb4.size)
    have hs3 := keep_size hb3 hs2
    clear p0 p1 p2 p3 p4 p5 p6 p7 p8 p9 pa pb HP2 HQ2 m1 m2 hb3
    have he : ∀ W, (binOp .eql 28 (.agg #[.int .i64 p.ag, .int .i64 p.aa, .int .i64 p.bg, .int .i64 p.ba, .bool p.two, .int .i64 p.size, .int .i64 p.level, .int .i64 p.birth, .int .u64 p.s0, .int .u64 p.s1, .int .u64 p.s2, .int .u64 p.s3])
      (.agg #[.int .i64 q.ag, .int .i64 q.aa, .int .i64 q.bg, .int .i64 q.ba, .bool q.two, .int .i64 q.size, .int .i64 q.level, .int .i64 q.birth, .int .u64 q.s0, .int .u64 q.s1, .int .u64 q.s2, .int .u64 q.s3])).run Try.prog W = .ok (.bool (ptrEq p q)) W := fun W => eql_ptr p q W
    have HRP : Hid (rightB gs secs p = true → noneB p = false ∧ layOk p = true ∧ (p.two = true → (p.ag == p.bg && p.aa == p.ba) = false)) := Lib.hid right_pure
    have HI : Hid (layOk p = true → layOk q = true → decide (ptrL p = ptrL q) = ptrEq p q) := Lib.hid fun h1 h2 => ptrL_iff h1 h2 op oq
    have hr := HP3.out
    obtain ⟨p0, p1, p2, p3, p4, p5, p6, p7, p8, p9, pa, pb⟩ := hr
    have hr := HQ3.out
    obtain ⟨q0, q1, q2, q3, q4, q5, q6, q7, q8, q9, qa, qb⟩ := hr
    simp only [Nat.zero_add] at p1 p2 p3 p4 p5 p6 p7 p8 p9 pa pb q1 q2 q3 q4 q5 q6 q7 q8 q9 qa qb
    rcases hcp with ⟨hlp, rfl, rfl⟩ | ⟨hlp, rfl⟩
    · rcases hcq with ⟨hlq, rfl, rfl⟩ | ⟨hlq, rfl⟩
      · have HII := HI.out hlp hlq
        generalize ptrL p = sp at *
        generalize ptrL q = sq at *
        cases hpe : ptrEq p q with
        | true =>
          rw [hpe, decide_eq_true_eq] at HII
          subst HII
          simp only [hpe] at he
          clear HI hlq hpe
          go_wp2_with fail
          refine (places_any p _).mono ?_
          rintro e w4 ⟨⟨A4, c4, rfl, h2⟩, hb6⟩
          have H2 := Lib.hid h2
          have HP4 := Lib.hid (HP3.out.keep hb6 (by omega))
          have n1 := keep_cell hb6 n1 (by omega)
          have n2 := keep_cell hb6 n2 (by omega)
          have hb7 := hb5.trans (hb6.mono hb5.size)
          have hs4 := keep_size hb6 hs3
          have HSZ := Lib.hid hb6.size
          have hN2 : ((placesN p : Nat) : Int) ≤ 2 := by have := placesN_le p; omega
          have HPN : Hid (noneB p = false → placesN p = if p.two then 2 else 1) := Lib.hid fun h => by unfold placesN; rw [h]; rfl
          clear h2 hb6 p0 p1 p2 p3 p4 p5 p6 p7 p8 p9 pa pb q0 q1 q2 q3 q4 q5 q6 q7 q8 q9 qa qb
          generalize placesN p = N at *
          have h := HP4.out
          obtain ⟨p0, p1, p2, p3, p4, p5, p6, p7, p8, p9, pa, pb⟩ := h
          simp only [Nat.zero_add] at p1 p2 p3 p4 p5 p6 p7 p8 p9 pa pb
          go_wp2_with fail
          refine (pright_any A n c gs secs p _ (hg.below hb7 (Nat.le_refl _))).mono ?_
          rintro e w5 ⟨rfl, hb8⟩
          have hb9 := hb7.trans (hb8.mono hb7.size)
          have hs5 := keep_size hb8 hs4
          have HP5 := Lib.hid (HP4.out.keep hb8 (by omega))
          clear p0 p1 p2 p3 p4 p5 p6 p7 p8 p9 pa pb
          cases hR : rightB gs secs p with
          | false =>
            go_wp2_with fail
            go_ret
            exact ⟨ret_bool (by first | (simp; done) | (simp; omega)), hb9⟩
          | true =>
            obtain ⟨z1, z2, z3⟩ := HRP.out hR
            first
            | exact Bool.noConfusion (show true = false from z2.symm.trans hlp)
            | skip
              have HZ3 := Lib.hid z3
              have HNN := Lib.hid (HPN.out z1)
              have HNC : Hid (∀ W, Calls Try.prog 10 #[.agg #[.int .i64 p.ag, .int .i64 p.aa, .int .i64 p.bg, .int .i64 p.ba, .bool p.two, .int .i64 p.size, .int .i64 p.level, .int .i64 p.birth, .int .u64 p.s0, .int .u64 p.s1, .int .u64 p.s2, .int .u64 p.s3]] W fun e w' => e = .returned (.bool false) ∧ Below W.heap.size W w') := Lib.hid fun W => by
                have := none_any p W
                rw [z1] at this
                exact this
              go_wp2_with fail
              obtain ⟨C, hC, hC0, hCB, hCK, hCd⟩ := cls_below w5
              have hPC : ∀ W, C W → PtrAt W (w.heap.size + 1) 0 p := fun W h => HP5.out.keep (hCB W h) (by omega)
              have f0 : ∀ W, C W → W.cell? ⟨w.heap.size + 1, 0, none⟩ = some (.int .i64 p.ag) := fun W h => (hPC W h).1
              have f1 : ∀ W, C W → W.cell? ⟨w.heap.size + 1, 1, none⟩ = some (.int .i64 p.aa) := fun W h => (hPC W h).2.1
              have f2 : ∀ W, C W → W.cell? ⟨w.heap.size + 1, 2, none⟩ = some (.int .i64 p.bg) := fun W h => (hPC W h).2.2.1
              have f3 : ∀ W, C W → W.cell? ⟨w.heap.size + 1, 3, none⟩ = some (.int .i64 p.ba) := fun W h => (hPC W h).2.2.2.1
              have f4 : ∀ W, C W → W.cell? ⟨w.heap.size + 1, 4, none⟩ = some (.bool p.two) := fun W h => (hPC W h).2.2.2.2.1
              have f5 : ∀ W, C W → W.cell? ⟨w.heap.size + 1, 5, none⟩ = some (.int .i64 p.size) := fun W h => (hPC W h).2.2.2.2.2.1
              have f6 : ∀ W, C W → W.cell? ⟨w.heap.size + 1, 6, none⟩ = some (.int .i64 p.level) := fun W h => (hPC W h).2.2.2.2.2.2.1
              have f7 : ∀ W, C W → W.cell? ⟨w.heap.size + 1, 7, none⟩ = some (.int .i64 p.birth) := fun W h => (hPC W h).2.2.2.2.2.2.2.1
              have f8 : ∀ W, C W → W.cell? ⟨w.heap.size + 1, 8, none⟩ = some (.int .u64 p.s0) := fun W h => (hPC W h).2.2.2.2.2.2.2.2.1
              have f9 : ∀ W, C W → W.cell? ⟨w.heap.size + 1, 9, none⟩ = some (.int .u64 p.s1) := fun W h => (hPC W h).2.2.2.2.2.2.2.2.2.1
              have f10 : ∀ W, C W → W.cell? ⟨w.heap.size + 1, 10, none⟩ = some (.int .u64 p.s2) := fun W h => (hPC W h).2.2.2.2.2.2.2.2.2.2.1
              have f11 : ∀ W, C W → W.cell? ⟨w.heap.size + 1, 11, none⟩ = some (.int .u64 p.s3) := fun W h => (hPC W h).2.2.2.2.2.2.2.2.2.2.2
              clear hPC z1 z2 z3
              cases ht : p.two with
              | false =>
                rw [ht] at HNN
                simp only [ht] at f4 HNC
                have hNN : N = 1 := HNN.out
                clear HNN HPN hN2
                subst hNN
                refine wp_region_cls C (by kernel_rfl) (by kernel_rfl) hC ?_
                repeat (first
                  | go_big_quiet_skip
                  | (go_big_quiet_want
                     go_big_quiet_op
                     first
                       | go_big_quiet_on
                       | (apply Exists.intro
                          refine ⟨fun W hW => ?_, ?_⟩
                          · first
                              | exact rfl
                              | exact ⟨rfl, rfl⟩
                              | (have e0 := f0 W hW; have e1 := f1 W hW; have e2 := f2 W hW; have e3 := f3 W hW; have e4 := f4 W hW; have e5 := f5 W hW; have e6 := f6 W hW; have e7 := f7 W hW; have e8 := f8 W hW; have e9 := f9 W hW; have e10 := f10 W hW; have e11 := f11 W hW; simp only [e0, e1, e2, e3, e4, e5, e6, e7, e8, e9, e10, e11, Result.andThen_ok]; done)
                              | (have e0 := f0 W hW; have e1 := f1 W hW; have e2 := f2 W hW; have e3 := f3 W hW; have e4 := f4 W hW; have e5 := f5 W hW; have e6 := f6 W hW; have e7 := f7 W hW; have e8 := f8 W hW; have e9 := f9 W hW; have e10 := f10 W hW; have e11 := f11 W hW; simp only [e0, e1, e2, e3, e4, e5, e6, e7, e8, e9, e10, e11, Result.andThen_ok]; first | exact ⟨trivial, rfl⟩ | exact rfl | exact ⟨rfl, rfl⟩)
                              | (refine (HNC.out W).mono ?_; rintro e w' ⟨rfl, hb⟩; exact ⟨rfl, hCK _ _ hW hb⟩)
                          go_big_quiet_on)))
                refine wpQuiet_nil ?_
                intro w' hw'
                have hwB := hCB w' hw'
                clear hCK hCd
                go_wp2_with fail
                go_ret
                exact ⟨ret_bool (by simp), hb9.trans (hwB.mono hb9.size)⟩
              | true =>
                rw [ht] at HNN
                simp only [ht] at f4 HNC
                have hNN : N = 2 := HNN.out
                clear HNN HPN hN2
                subst hNN
                obtain ⟨b4, rfl, r0, r1, r2, r3⟩ := H2.out rfl
                have r4 := World.block_lt_of_cell? _ _ r0
                have r0 := keep_cell hb8 r0 r4
                have r1 := keep_cell hb8 r1 r4
                have r2 := keep_cell hb8 r2 r4
                have r3 := keep_cell hb8 r3 r4
                have r5 := World.block_lt_of_cell? _ _ r0
                have fa : ∀ W, C W → W.cell? ⟨b4, 0, none⟩ = some (.int .i64 p.ag) := fun W h => keep_cell (hCB W h) r0 r5
                have fb : ∀ W, C W → W.cell? ⟨b4, 1, none⟩ = some (.int .i64 p.aa) := fun W h => keep_cell (hCB W h) r1 r5
                have fc : ∀ W, C W → W.cell? ⟨b4, 2, none⟩ = some (.int .i64 p.bg) := fun W h => keep_cell (hCB W h) r2 r5
                have fd : ∀ W, C W → W.cell? ⟨b4, 3, none⟩ = some (.int .i64 p.ba) := fun W h => keep_cell (hCB W h) r3 r5
                have hq := HZ3.out ht
                have he2 : ∀ W, (binOp .neq 23 (.agg #[.int .i64 p.ag, .int .i64 p.aa]) (.agg #[.int .i64 p.bg, .int .i64 p.ba])).run Try.prog W = .ok (.bool true) W := fun W => by rw [neq_place, hq]; rfl
                clear r0 r1 r2 r3 r4 r5 hq
                refine wp_region_cls C (by kernel_rfl) (by kernel_rfl) hC ?_
                repeat (first
                  | go_big_quiet_skip
                  | (go_big_quiet_want
                     go_big_quiet_op
                     first
                       | go_big_quiet_on
                       | (apply Exists.intro
                          refine ⟨fun W hW => ?_, ?_⟩
                          · first
                              | exact rfl
                              | exact ⟨rfl, rfl⟩
                              | (have e0 := f0 W hW; have e1 := f1 W hW; have e2 := f2 W hW; have e3 := f3 W hW; have e4 := f4 W hW; have e5 := f5 W hW; have e6 := f6 W hW; have e7 := f7 W hW; have e8 := f8 W hW; have e9 := f9 W hW; have e10 := f10 W hW; have e11 := f11 W hW; have e12 := fa W hW; have e13 := fb W hW; have e14 := fc W hW; have e15 := fd W hW; simp only [e0, e1, e2, e3, e4, e5, e6, e7, e8, e9, e10, e11, e12, e13, e14, e15, Result.andThen_ok]; done)
                              | (have e0 := f0 W hW; have e1 := f1 W hW; have e2 := f2 W hW; have e3 := f3 W hW; have e4 := f4 W hW; have e5 := f5 W hW; have e6 := f6 W hW; have e7 := f7 W hW; have e8 := f8 W hW; have e9 := f9 W hW; have e10 := f10 W hW; have e11 := f11 W hW; have e12 := fa W hW; have e13 := fb W hW; have e14 := fc W hW; have e15 := fd W hW; simp only [e0, e1, e2, e3, e4, e5, e6, e7, e8, e9, e10, e11, e12, e13, e14, e15, Result.andThen_ok]; first | exact ⟨trivial, rfl⟩ | exact rfl | exact ⟨rfl, rfl⟩)
                              | (refine (HNC.out W).mono ?_; rintro e w' ⟨rfl, hb⟩; exact ⟨rfl, hCK _ _ hW hb⟩)
                          go_big_quiet_on)))
                refine wpQuiet_nil ?_
                intro w' hw'
                have hwB := hCB w' hw'
                clear hCK hCd
                go_wp2_with fail
                go_ret
                exact ⟨ret_bool (by simp), hb9.trans (hwB.mono hb9.size)⟩
        | false =>
          rw [hpe, decide_eq_false_iff_not] at HII
          simp only [hpe] at he
          have hne : (sp == sq) = false := by simpa using HII
          clear HI hlq hpe
          go_wp2_with fail
          refine (places_any p _).mono ?_
          rintro e w4 ⟨⟨A4, c4, rfl, h2⟩, hb6⟩
          have H2 := Lib.hid h2
          have HP4 := Lib.hid (HP3.out.keep hb6 (by omega))
          have n1 := keep_cell hb6 n1 (by omega)
          have n2 := keep_cell hb6 n2 (by omega)
          have hb7 := hb5.trans (hb6.mono hb5.size)
          have hs4 := keep_size hb6 hs3
          have HSZ := Lib.hid hb6.size
          have hN2 : ((placesN p : Nat) : Int) ≤ 2 := by have := placesN_le p; omega
          have HPN : Hid (noneB p = false → placesN p = if p.two then 2 else 1) := Lib.hid fun h => by unfold placesN; rw [h]; rfl
          clear h2 hb6 p0 p1 p2 p3 p4 p5 p6 p7 p8 p9 pa pb q0 q1 q2 q3 q4 q5 q6 q7 q8 q9 qa qb
          generalize placesN p = N at *
          have h := HP4.out
          obtain ⟨p0, p1, p2, p3, p4, p5, p6, p7, p8, p9, pa, pb⟩ := h
          simp only [Nat.zero_add] at p1 p2 p3 p4 p5 p6 p7 p8 p9 pa pb
          go_wp2_with fail
          refine (pright_any A n c gs secs p _ (hg.below hb7 (Nat.le_refl _))).mono ?_
          rintro e w5 ⟨rfl, hb8⟩
          have hb9 := hb7.trans (hb8.mono hb7.size)
          have hs5 := keep_size hb8 hs4
          have HP5 := Lib.hid (HP4.out.keep hb8 (by omega))
          clear p0 p1 p2 p3 p4 p5 p6 p7 p8 p9 pa pb
          cases hR : rightB gs secs p with
          | false =>
            go_wp2_with fail
            go_ret
            exact ⟨ret_bool (by first | (simp; done) | (simp; omega)), hb9⟩
          | true =>
            obtain ⟨z1, z2, z3⟩ := HRP.out hR
            first
            | exact Bool.noConfusion (show true = false from z2.symm.trans hlp)
            | skip
              have HZ3 := Lib.hid z3
              have HNN := Lib.hid (HPN.out z1)
              have HNC : Hid (∀ W, Calls Try.prog 10 #[.agg #[.int .i64 p.ag, .int .i64 p.aa, .int .i64 p.bg, .int .i64 p.ba, .bool p.two, .int .i64 p.size, .int .i64 p.level, .int .i64 p.birth, .int .u64 p.s0, .int .u64 p.s1, .int .u64 p.s2, .int .u64 p.s3]] W fun e w' => e = .returned (.bool false) ∧ Below W.heap.size W w') := Lib.hid fun W => by
                have := none_any p W
                rw [z1] at this
                exact this
              go_wp2_with fail
              obtain ⟨C, hC, hC0, hCB, hCK, hCd⟩ := cls_below w5
              have hPC : ∀ W, C W → PtrAt W (w.heap.size + 1) 0 p := fun W h => HP5.out.keep (hCB W h) (by omega)
              have f0 : ∀ W, C W → W.cell? ⟨w.heap.size + 1, 0, none⟩ = some (.int .i64 p.ag) := fun W h => (hPC W h).1
              have f1 : ∀ W, C W → W.cell? ⟨w.heap.size + 1, 1, none⟩ = some (.int .i64 p.aa) := fun W h => (hPC W h).2.1
              have f2 : ∀ W, C W → W.cell? ⟨w.heap.size + 1, 2, none⟩ = some (.int .i64 p.bg) := fun W h => (hPC W h).2.2.1
              have f3 : ∀ W, C W → W.cell? ⟨w.heap.size + 1, 3, none⟩ = some (.int .i64 p.ba) := fun W h => (hPC W h).2.2.2.1
              have f4 : ∀ W, C W → W.cell? ⟨w.heap.size + 1, 4, none⟩ = some (.bool p.two) := fun W h => (hPC W h).2.2.2.2.1
              have f5 : ∀ W, C W → W.cell? ⟨w.heap.size + 1, 5, none⟩ = some (.int .i64 p.size) := fun W h => (hPC W h).2.2.2.2.2.1
              have f6 : ∀ W, C W → W.cell? ⟨w.heap.size + 1, 6, none⟩ = some (.int .i64 p.level) := fun W h => (hPC W h).2.2.2.2.2.2.1
              have f7 : ∀ W, C W → W.cell? ⟨w.heap.size + 1, 7, none⟩ = some (.int .i64 p.birth) := fun W h => (hPC W h).2.2.2.2.2.2.2.1
              have f8 : ∀ W, C W → W.cell? ⟨w.heap.size + 1, 8, none⟩ = some (.int .u64 p.s0) := fun W h => (hPC W h).2.2.2.2.2.2.2.2.1
              have f9 : ∀ W, C W → W.cell? ⟨w.heap.size + 1, 9, none⟩ = some (.int .u64 p.s1) := fun W h => (hPC W h).2.2.2.2.2.2.2.2.2.1
              have f10 : ∀ W, C W → W.cell? ⟨w.heap.size + 1, 10, none⟩ = some (.int .u64 p.s2) := fun W h => (hPC W h).2.2.2.2.2.2.2.2.2.2.1
              have f11 : ∀ W, C W → W.cell? ⟨w.heap.size + 1, 11, none⟩ = some (.int .u64 p.s3) := fun W h => (hPC W h).2.2.2.2.2.2.2.2.2.2.2
              clear hPC z1 z2 z3
              cases ht : p.two with
              | false =>
                rw [ht] at HNN
                simp only [ht] at f4 HNC
                have hNN : N = 1 := HNN.out
                clear HNN HPN hN2
                subst hNN
                refine wp_region_cls C (by kernel_rfl) (by kernel_rfl) hC ?_
                repeat (first
                  | go_big_quiet_skip
                  | (go_big_quiet_want
                     go_big_quiet_op
                     first
                       | go_big_quiet_on
                       | (apply Exists.intro
                          refine ⟨fun W hW => ?_, ?_⟩
                          · first
                              | exact rfl
                              | exact ⟨rfl, rfl⟩
                              | (have e0 := f0 W hW; have e1 := f1 W hW; have e2 := f2 W hW; have e3 := f3 W hW; have e4 := f4 W hW; have e5 := f5 W hW; have e6 := f6 W hW; have e7 := f7 W hW; have e8 := f8 W hW; have e9 := f9 W hW; have e10 := f10 W hW; have e11 := f11 W hW; simp only [e0, e1, e2, e3, e4, e5, e6, e7, e8, e9, e10, e11, Result.andThen_ok]; done)
                              | (have e0 := f0 W hW; have e1 := f1 W hW; have e2 := f2 W hW; have e3 := f3 W hW; have e4 := f4 W hW; have e5 := f5 W hW; have e6 := f6 W hW; have e7 := f7 W hW; have e8 := f8 W hW; have e9 := f9 W hW; have e10 := f10 W hW; have e11 := f11 W hW; simp only [e0, e1, e2, e3, e4, e5, e6, e7, e8, e9, e10, e11, Result.andThen_ok]; first | exact ⟨trivial, rfl⟩ | exact rfl | exact ⟨rfl, rfl⟩)
                              | (refine (HNC.out W).mono ?_; rintro e w' ⟨rfl, hb⟩; exact ⟨rfl, hCK _ _ hW hb⟩)
                          go_big_quiet_on)))
                refine wpQuiet_nil ?_
                intro w' hw'
                have hwB := hCB w' hw'
                clear hCK hCd
                go_wp2_with fail
                go_ret
                exact ⟨ret_bool (by simp), hb9.trans (hwB.mono hb9.size)⟩
              | true =>
                rw [ht] at HNN
                simp only [ht] at f4 HNC
                have hNN : N = 2 := HNN.out
                clear HNN HPN hN2
                subst hNN
                obtain ⟨b4, rfl, r0, r1, r2, r3⟩ := H2.out rfl
                have r4 := World.block_lt_of_cell? _ _ r0
                have r0 := keep_cell hb8 r0 r4
                have r1 := keep_cell hb8 r1 r4
                have r2 := keep_cell hb8 r2 r4
                have r3 := keep_cell hb8 r3 r4
                have r5 := World.block_lt_of_cell? _ _ r0
                have fa : ∀ W, C W → W.cell? ⟨b4, 0, none⟩ = some (.int .i64 p.ag) := fun W h => keep_cell (hCB W h) r0 r5
                have fb : ∀ W, C W → W.cell? ⟨b4, 1, none⟩ = some (.int .i64 p.aa) := fun W h => keep_cell (hCB W h) r1 r5
                have fc : ∀ W, C W → W.cell? ⟨b4, 2, none⟩ = some (.int .i64 p.bg) := fun W h => keep_cell (hCB W h) r2 r5
                have fd : ∀ W, C W → W.cell? ⟨b4, 3, none⟩ = some (.int .i64 p.ba) := fun W h => keep_cell (hCB W h) r3 r5
                have hq := HZ3.out ht
                have he2 : ∀ W, (binOp .neq 23 (.agg #[.int .i64 p.ag, .int .i64 p.aa]) (.agg #[.int .i64 p.bg, .int .i64 p.ba])).run Try.prog W = .ok (.bool true) W := fun W => by rw [neq_place, hq]; rfl
                clear r0 r1 r2 r3 r4 r5 hq
                refine wp_region_cls C (by kernel_rfl) (by kernel_rfl) hC ?_
                repeat (first
                  | go_big_quiet_skip
                  | (go_big_quiet_want
                     go_big_quiet_op
                     first
                       | go_big_quiet_on
                       | (apply Exists.intro
                          refine ⟨fun W hW => ?_, ?_⟩
                          · first
                              | exact rfl
                              | exact ⟨rfl, rfl⟩
                              | (have e0 := f0 W hW; have e1 := f1 W hW; have e2 := f2 W hW; have e3 := f3 W hW; have e4 := f4 W hW; have e5 := f5 W hW; have e6 := f6 W hW; have e7 := f7 W hW; have e8 := f8 W hW; have e9 := f9 W hW; have e10 := f10 W hW; have e11 := f11 W hW; have e12 := fa W hW; have e13 := fb W hW; have e14 := fc W hW; have e15 := fd W hW; simp only [e0, e1, e2, e3, e4, e5, e6, e7, e8, e9, e10, e11, e12, e13, e14, e15, Result.andThen_ok]; done)
                              | (have e0 := f0 W hW; have e1 := f1 W hW; have e2 := f2 W hW; have e3 := f3 W hW; have e4 := f4 W hW; have e5 := f5 W hW; have e6 := f6 W hW; have e7 := f7 W hW; have e8 := f8 W hW; have e9 := f9 W hW; have e10 := f10 W hW; have e11 := f11 W hW; have e12 := fa W hW; have e13 := fb W hW; have e14 := fc W hW; have e15 := fd W hW; simp only [e0, e1, e2, e3, e4, e5, e6, e7, e8, e9, e10, e11, e12, e13, e14, e15, Result.andThen_ok]; first | exact ⟨trivial, rfl⟩ | exact rfl | exact ⟨rfl, rfl⟩)
                              | (refine (HNC.out W).mono ?_; rintro e w' ⟨rfl, hb⟩; exact ⟨rfl, hCK _ _ hW hb⟩)
                          go_big_quiet_on)))
                refine wpQuiet_nil ?_
                intro w' hw'
                have hwB := hCB w' hw'
                clear hCK hCd
                go_wp2_with fail
                go_ret
                exact ⟨ret_bool (by simp), hb9.trans (hwB.mono hb9.size)⟩
      · clear HI hlq
        go_wp2_with fail
        refine (places_any p _).mono ?_
        rintro e w4 ⟨⟨A4, c4, rfl, h2⟩, hb6⟩
        have H2 := Lib.hid h2
        have HP4 := Lib.hid (HP3.out.keep hb6 (by omega))
        have n1 := keep_cell hb6 n1 (by omega)
        have n2 := keep_cell hb6 n2 (by omega)
        have hb7 := hb5.trans (hb6.mono hb5.size)
        have hs4 := keep_size hb6 hs3
        have HSZ := Lib.hid hb6.size
        have hN2 : ((placesN p : Nat) : Int) ≤ 2 := by have := placesN_le p; omega
        have HPN : Hid (noneB p = false → placesN p = if p.two then 2 else 1) := Lib.hid fun h => by unfold placesN; rw [h]; rfl
        clear h2 hb6 p0 p1 p2 p3 p4 p5 p6 p7 p8 p9 pa pb q0 q1 q2 q3 q4 q5 q6 q7 q8 q9 qa qb
        generalize placesN p = N at *
        have h := HP4.out
        obtain ⟨p0, p1, p2, p3, p4, p5, p6, p7, p8, p9, pa, pb⟩ := h
        simp only [Nat.zero_add] at p1 p2 p3 p4 p5 p6 p7 p8 p9 pa pb
        go_wp2_with fail
        refine (pright_any A n c gs secs p _ (hg.below hb7 (Nat.le_refl _))).mono ?_
        rintro e w5 ⟨rfl, hb8⟩
        have hb9 := hb7.trans (hb8.mono hb7.size)
        have hs5 := keep_size hb8 hs4
        have HP5 := Lib.hid (HP4.out.keep hb8 (by omega))
        clear p0 p1 p2 p3 p4 p5 p6 p7 p8 p9 pa pb
        cases hR : rightB gs secs p with
        | false =>
          go_wp2_with fail
          go_ret
          exact ⟨ret_bool (by first | (simp; done) | (simp; omega)), hb9⟩
        | true =>
          obtain ⟨z1, z2, z3⟩ := HRP.out hR
          first
          | exact Bool.noConfusion (show true = false from z2.symm.trans hlp)
          | skip
            have HZ3 := Lib.hid z3
            have HNN := Lib.hid (HPN.out z1)
            have HNC : Hid (∀ W, Calls Try.prog 10 #[.agg #[.int .i64 p.ag, .int .i64 p.aa, .int .i64 p.bg, .int .i64 p.ba, .bool p.two, .int .i64 p.size, .int .i64 p.level, .int .i64 p.birth, .int .u64 p.s0, .int .u64 p.s1, .int .u64 p.s2, .int .u64 p.s3]] W fun e w' => e = .returned (.bool false) ∧ Below W.heap.size W w') := Lib.hid fun W => by
              have := none_any p W
              rw [z1] at this
              exact this
            go_wp2_with fail
            obtain ⟨C, hC, hC0, hCB, hCK, hCd⟩ := cls_below w5
            have hPC : ∀ W, C W → PtrAt W (w.heap.size + 1) 0 p := fun W h => HP5.out.keep (hCB W h) (by omega)
            have f0 : ∀ W, C W → W.cell? ⟨w.heap.size + 1, 0, none⟩ = some (.int .i64 p.ag) := fun W h => (hPC W h).1
            have f1 : ∀ W, C W → W.cell? ⟨w.heap.size + 1, 1, none⟩ = some (.int .i64 p.aa) := fun W h => (hPC W h).2.1
            have f2 : ∀ W, C W → W.cell? ⟨w.heap.size + 1, 2, none⟩ = some (.int .i64 p.bg) := fun W h => (hPC W h).2.2.1
            have f3 : ∀ W, C W → W.cell? ⟨w.heap.size + 1, 3, none⟩ = some (.int .i64 p.ba) := fun W h => (hPC W h).2.2.2.1
            have f4 : ∀ W, C W → W.cell? ⟨w.heap.size + 1, 4, none⟩ = some (.bool p.two) := fun W h => (hPC W h).2.2.2.2.1
            have f5 : ∀ W, C W → W.cell? ⟨w.heap.size + 1, 5, none⟩ = some (.int .i64 p.size) := fun W h => (hPC W h).2.2.2.2.2.1
            have f6 : ∀ W, C W → W.cell? ⟨w.heap.size + 1, 6, none⟩ = some (.int .i64 p.level) := fun W h => (hPC W h).2.2.2.2.2.2.1
            have f7 : ∀ W, C W → W.cell? ⟨w.heap.size + 1, 7, none⟩ = some (.int .i64 p.birth) := fun W h => (hPC W h).2.2.2.2.2.2.2.1
            have f8 : ∀ W, C W → W.cell? ⟨w.heap.size + 1, 8, none⟩ = some (.int .u64 p.s0) := fun W h => (hPC W h).2.2.2.2.2.2.2.2.1
            have f9 : ∀ W, C W → W.cell? ⟨w.heap.size + 1, 9, none⟩ = some (.int .u64 p.s1) := fun W h => (hPC W h).2.2.2.2.2.2.2.2.2.1
            have f10 : ∀ W, C W → W.cell? ⟨w.heap.size + 1, 10, none⟩ = some (.int .u64 p.s2) := fun W h => (hPC W h).2.2.2.2.2.2.2.2.2.2.1
            have f11 : ∀ W, C W → W.cell? ⟨w.heap.size + 1, 11, none⟩ = some (.int .u64 p.s3) := fun W h => (hPC W h).2.2.2.2.2.2.2.2.2.2.2
            clear hPC z1 z2 z3
            cases ht : p.two with
            | false =>
              rw [ht] at HNN
              simp only [ht] at f4 HNC
              have hNN : N = 1 := HNN.out
              clear HNN HPN hN2
              subst hNN
              refine wp_region_cls C (by kernel_rfl) (by kernel_rfl) hC ?_
              repeat (first
                | go_big_quiet_skip
                | (go_big_quiet_want
                   go_big_quiet_op
                   first
                     | go_big_quiet_on
                     | (apply Exists.intro
                        refine ⟨fun W hW => ?_, ?_⟩
                        · first
                            | exact rfl
                            | exact ⟨rfl, rfl⟩
                            | (have e0 := f0 W hW; have e1 := f1 W hW; have e2 := f2 W hW; have e3 := f3 W hW; have e4 := f4 W hW; have e5 := f5 W hW; have e6 := f6 W hW; have e7 := f7 W hW; have e8 := f8 W hW; have e9 := f9 W hW; have e10 := f10 W hW; have e11 := f11 W hW; simp only [e0, e1, e2, e3, e4, e5, e6, e7, e8, e9, e10, e11, Result.andThen_ok]; done)
                            | (have e0 := f0 W hW; have e1 := f1 W hW; have e2 := f2 W hW; have e3 := f3 W hW; have e4 := f4 W hW; have e5 := f5 W hW; have e6 := f6 W hW; have e7 := f7 W hW; have e8 := f8 W hW; have e9 := f9 W hW; have e10 := f10 W hW; have e11 := f11 W hW; simp only [e0, e1, e2, e3, e4, e5, e6, e7, e8, e9, e10, e11, Result.andThen_ok]; first | exact ⟨trivial, rfl⟩ | exact rfl | exact ⟨rfl, rfl⟩)
                            | (refine (HNC.out W).mono ?_; rintro e w' ⟨rfl, hb⟩; exact ⟨rfl, hCK _ _ hW hb⟩)
                        go_big_quiet_on)))
              refine wpQuiet_nil ?_
              intro w' hw'
              have hwB := hCB w' hw'
              clear hCK hCd
              go_wp2_with fail
              go_ret
              exact ⟨ret_bool (by simp), hb9.trans (hwB.mono hb9.size)⟩
            | true =>
              rw [ht] at HNN
              simp only [ht] at f4 HNC
              have hNN : N = 2 := HNN.out
              clear HNN HPN hN2
              subst hNN
              obtain ⟨b4, rfl, r0, r1, r2, r3⟩ := H2.out rfl
              have r4 := World.block_lt_of_cell? _ _ r0
              have r0 := keep_cell hb8 r0 r4
              have r1 := keep_cell hb8 r1 r4
              have r2 := keep_cell hb8 r2 r4
              have r3 := keep_cell hb8 r3 r4
              have r5 := World.block_lt_of_cell? _ _ r0
              have fa : ∀ W, C W → W.cell? ⟨b4, 0, none⟩ = some (.int .i64 p.ag) := fun W h => keep_cell (hCB W h) r0 r5
              have fb : ∀ W, C W → W.cell? ⟨b4, 1, none⟩ = some (.int .i64 p.aa) := fun W h => keep_cell (hCB W h) r1 r5
              have fc : ∀ W, C W → W.cell? ⟨b4, 2, none⟩ = some (.int .i64 p.bg) := fun W h => keep_cell (hCB W h) r2 r5
              have fd : ∀ W, C W → W.cell? ⟨b4, 3, none⟩ = some (.int .i64 p.ba) := fun W h => keep_cell (hCB W h) r3 r5
              have hq := HZ3.out ht
              have he2 : ∀ W, (binOp .neq 23 (.agg #[.int .i64 p.ag, .int .i64 p.aa]) (.agg #[.int .i64 p.bg, .int .i64 p.ba])).run Try.prog W = .ok (.bool true) W := fun W => by rw [neq_place, hq]; rfl
              clear r0 r1 r2 r3 r4 r5 hq
              refine wp_region_cls C (by kernel_rfl) (by kernel_rfl) hC ?_
              repeat (first
                | go_big_quiet_skip
                | (go_big_quiet_want
                   go_big_quiet_op
                   first
                     | go_big_quiet_on
                     | (apply Exists.intro
                        refine ⟨fun W hW => ?_, ?_⟩
                        · first
                            | exact rfl
                            | exact ⟨rfl, rfl⟩
                            | (have e0 := f0 W hW; have e1 := f1 W hW; have e2 := f2 W hW; have e3 := f3 W hW; have e4 := f4 W hW; have e5 := f5 W hW; have e6 := f6 W hW; have e7 := f7 W hW; have e8 := f8 W hW; have e9 := f9 W hW; have e10 := f10 W hW; have e11 := f11 W hW; have e12 := fa W hW; have e13 := fb W hW; have e14 := fc W hW; have e15 := fd W hW; simp only [e0, e1, e2, e3, e4, e5, e6, e7, e8, e9, e10, e11, e12, e13, e14, e15, Result.andThen_ok]; done)
                            | (have e0 := f0 W hW; have e1 := f1 W hW; have e2 := f2 W hW; have e3 := f3 W hW; have e4 := f4 W hW; have e5 := f5 W hW; have e6 := f6 W hW; have e7 := f7 W hW; have e8 := f8 W hW; have e9 := f9 W hW; have e10 := f10 W hW; have e11 := f11 W hW; have e12 := fa W hW; have e13 := fb W hW; have e14 := fc W hW; have e15 := fd W hW; simp only [e0, e1, e2, e3, e4, e5, e6, e7, e8, e9, e10, e11, e12, e13, e14, e15, Result.andThen_ok]; first | exact ⟨trivial, rfl⟩ | exact rfl | exact ⟨rfl, rfl⟩)
                            | (refine (HNC.out W).mono ?_; rintro e w' ⟨rfl, hb⟩; exact ⟨rfl, hCK _ _ hW hb⟩)
                        go_big_quiet_on)))
              refine wpQuiet_nil ?_
              intro w' hw'
              have hwB := hCB w' hw'
              clear hCK hCd
              go_wp2_with fail
              go_ret
              exact ⟨ret_bool (by simp), hb9.trans (hwB.mono hb9.size)⟩
    · clear HI hcq
      go_wp2_with fail
      refine (places_any p _).mono ?_
      rintro e w4 ⟨⟨A4, c4, rfl, h2⟩, hb6⟩
      have H2 := Lib.hid h2
      have HP4 := Lib.hid (HP3.out.keep hb6 (by omega))
      have n1 := keep_cell hb6 n1 (by omega)
      have n2 := keep_cell hb6 n2 (by omega)
      have hb7 := hb5.trans (hb6.mono hb5.size)
      have hs4 := keep_size hb6 hs3
      have HSZ := Lib.hid hb6.size
      have hN2 : ((placesN p : Nat) : Int) ≤ 2 := by have := placesN_le p; omega
      have HPN : Hid (noneB p = false → placesN p = if p.two then 2 else 1) := Lib.hid fun h => by unfold placesN; rw [h]; rfl
      clear h2 hb6 p0 p1 p2 p3 p4 p5 p6 p7 p8 p9 pa pb q0 q1 q2 q3 q4 q5 q6 q7 q8 q9 qa qb
      generalize placesN p = N at *
      have h := HP4.out
      obtain ⟨p0, p1, p2, p3, p4, p5, p6, p7, p8, p9, pa, pb⟩ := h
      simp only [Nat.zero_add] at p1 p2 p3 p4 p5 p6 p7 p8 p9 pa pb
      go_wp2_with fail
      refine (pright_any A n c gs secs p _ (hg.below hb7 (Nat.le_refl _))).mono ?_
      rintro e w5 ⟨rfl, hb8⟩
      have hb9 := hb7.trans (hb8.mono hb7.size)
      have hs5 := keep_size hb8 hs4
      have HP5 := Lib.hid (HP4.out.keep hb8 (by omega))
      clear p0 p1 p2 p3 p4 p5 p6 p7 p8 p9 pa pb
      cases hR : rightB gs secs p with
      | false =>
        go_wp2_with fail
        go_ret
        exact ⟨ret_bool (by first | (simp; done) | (simp; omega)), hb9⟩
      | true =>
        obtain ⟨z1, z2, z3⟩ := HRP.out hR
        first
        | exact Bool.noConfusion (show true = false from z2.symm.trans hlp)
        | skip
          have HZ3 := Lib.hid z3
          have HNN := Lib.hid (HPN.out z1)
          have HNC : Hid (∀ W, Calls Try.prog 10 #[.agg #[.int .i64 p.ag, .int .i64 p.aa, .int .i64 p.bg, .int .i64 p.ba, .bool p.two, .int .i64 p.size, .int .i64 p.level, .int .i64 p.birth, .int .u64 p.s0, .int .u64 p.s1, .int .u64 p.s2, .int .u64 p.s3]] W fun e w' => e = .returned (.bool false) ∧ Below W.heap.size W w') := Lib.hid fun W => by
            have := none_any p W
            rw [z1] at this
            exact this
          go_wp2_with fail
          obtain ⟨C, hC, hC0, hCB, hCK, hCd⟩ := cls_below w5
          have hPC : ∀ W, C W → PtrAt W (w.heap.size + 1) 0 p := fun W h => HP5.out.keep (hCB W h) (by omega)
          have f0 : ∀ W, C W → W.cell? ⟨w.heap.size + 1, 0, none⟩ = some (.int .i64 p.ag) := fun W h => (hPC W h).1
          have f1 : ∀ W, C W → W.cell? ⟨w.heap.size + 1, 1, none⟩ = some (.int .i64 p.aa) := fun W h => (hPC W h).2.1
          have f2 : ∀ W, C W → W.cell? ⟨w.heap.size + 1, 2, none⟩ = some (.int .i64 p.bg) := fun W h => (hPC W h).2.2.1
          have f3 : ∀ W, C W → W.cell? ⟨w.heap.size + 1, 3, none⟩ = some (.int .i64 p.ba) := fun W h => (hPC W h).2.2.2.1
          have f4 : ∀ W, C W → W.cell? ⟨w.heap.size + 1, 4, none⟩ = some (.bool p.two) := fun W h => (hPC W h).2.2.2.2.1
          have f5 : ∀ W, C W → W.cell? ⟨w.heap.size + 1, 5, none⟩ = some (.int .i64 p.size) := fun W h => (hPC W h).2.2.2.2.2.1
          have f6 : ∀ W, C W → W.cell? ⟨w.heap.size + 1, 6, none⟩ = some (.int .i64 p.level) := fun W h => (hPC W h).2.2.2.2.2.2.1
          have f7 : ∀ W, C W → W.cell? ⟨w.heap.size + 1, 7, none⟩ = some (.int .i64 p.birth) := fun W h => (hPC W h).2.2.2.2.2.2.2.1
          have f8 : ∀ W, C W → W.cell? ⟨w.heap.size + 1, 8, none⟩ = some (.int .u64 p.s0) := fun W h => (hPC W h).2.2.2.2.2.2.2.2.1
          have f9 : ∀ W, C W → W.cell? ⟨w.heap.size + 1, 9, none⟩ = some (.int .u64 p.s1) := fun W h => (hPC W h).2.2.2.2.2.2.2.2.2.1
          have f10 : ∀ W, C W → W.cell? ⟨w.heap.size + 1, 10, none⟩ = some (.int .u64 p.s2) := fun W h => (hPC W h).2.2.2.2.2.2.2.2.2.2.1
          have f11 : ∀ W, C W → W.cell? ⟨w.heap.size + 1, 11, none⟩ = some (.int .u64 p.s3) := fun W h => (hPC W h).2.2.2.2.2.2.2.2.2.2.2
          clear hPC z1 z2 z3
          cases ht : p.two with
          | false =>
            rw [ht] at HNN
            simp only [ht] at f4 HNC
            have hNN : N = 1 := HNN.out
            clear HNN HPN hN2
            subst hNN
            refine wp_region_cls C (by kernel_rfl) (by kernel_rfl) hC ?_
            repeat (first
              | go_big_quiet_skip
              | (go_big_quiet_want
                 go_big_quiet_op
                 first
                   | go_big_quiet_on
                   | (apply Exists.intro
                      refine ⟨fun W hW => ?_, ?_⟩
                      · first
                          | exact rfl
                          | exact ⟨rfl, rfl⟩
                          | (have e0 := f0 W hW; have e1 := f1 W hW; have e2 := f2 W hW; have e3 := f3 W hW; have e4 := f4 W hW; have e5 := f5 W hW; have e6 := f6 W hW; have e7 := f7 W hW; have e8 := f8 W hW; have e9 := f9 W hW; have e10 := f10 W hW; have e11 := f11 W hW; simp only [e0, e1, e2, e3, e4, e5, e6, e7, e8, e9, e10, e11, Result.andThen_ok]; done)
                          | (have e0 := f0 W hW; have e1 := f1 W hW; have e2 := f2 W hW; have e3 := f3 W hW; have e4 := f4 W hW; have e5 := f5 W hW; have e6 := f6 W hW; have e7 := f7 W hW; have e8 := f8 W hW; have e9 := f9 W hW; have e10 := f10 W hW; have e11 := f11 W hW; simp only [e0, e1, e2, e3, e4, e5, e6, e7, e8, e9, e10, e11, Result.andThen_ok]; first | exact ⟨trivial, rfl⟩ | exact rfl | exact ⟨rfl, rfl⟩)
                          | (refine (HNC.out W).mono ?_; rintro e w' ⟨rfl, hb⟩; exact ⟨rfl, hCK _ _ hW hb⟩)
                      go_big_quiet_on)))
            refine wpQuiet_nil ?_
            intro w' hw'
            have hwB := hCB w' hw'
            clear hCK hCd
            go_wp2_with fail
            go_ret
            exact ⟨ret_bool (by simp), hb9.trans (hwB.mono hb9.size)⟩
          | true =>
            rw [ht] at HNN
            simp only [ht] at f4 HNC
            have hNN : N = 2 := HNN.out
            clear HNN HPN hN2
            subst hNN
            obtain ⟨b4, rfl, r0, r1, r2, r3⟩ := H2.out rfl
            have r4 := World.block_lt_of_cell? _ _ r0
            have r0 := keep_cell hb8 r0 r4
            have r1 := keep_cell hb8 r1 r4
            have r2 := keep_cell hb8 r2 r4
            have r3 := keep_cell hb8 r3 r4
            have r5 := World.block_lt_of_cell? _ _ r0
            have fa : ∀ W, C W → W.cell? ⟨b4, 0, none⟩ = some (.int .i64 p.ag) := fun W h => keep_cell (hCB W h) r0 r5
            have fb : ∀ W, C W → W.cell? ⟨b4, 1, none⟩ = some (.int .i64 p.aa) := fun W h => keep_cell (hCB W h) r1 r5
            have fc : ∀ W, C W → W.cell? ⟨b4, 2, none⟩ = some (.int .i64 p.bg) := fun W h => keep_cell (hCB W h) r2 r5
            have fd : ∀ W, C W → W.cell? ⟨b4, 3, none⟩ = some (.int .i64 p.ba) := fun W h => keep_cell (hCB W h) r3 r5
            have hq := HZ3.out ht
            have he2 : ∀ W, (binOp .neq 23 (.agg #[.int .i64 p.ag, .int .i64 p.aa]) (.agg #[.int .i64 p.bg, .int .i64 p.ba])).run Try.prog W = .ok (.bool true) W := fun W => by rw [neq_place, hq]; rfl
            clear r0 r1 r2 r3 r4 r5 hq
            refine wp_region_cls C (by kernel_rfl) (by kernel_rfl) hC ?_
            repeat (first
              | go_big_quiet_skip
              | (go_big_quiet_want
                 go_big_quiet_op
                 first
                   | go_big_quiet_on
                   | (apply Exists.intro
                      refine ⟨fun W hW => ?_, ?_⟩
                      · first
                          | exact rfl
                          | exact ⟨rfl, rfl⟩
                          | (have e0 := f0 W hW; have e1 := f1 W hW; have e2 := f2 W hW; have e3 := f3 W hW; have e4 := f4 W hW; have e5 := f5 W hW; have e6 := f6 W hW; have e7 := f7 W hW; have e8 := f8 W hW; have e9 := f9 W hW; have e10 := f10 W hW; have e11 := f11 W hW; have e12 := fa W hW; have e13 := fb W hW; have e14 := fc W hW; have e15 := fd W hW; simp only [e0, e1, e2, e3, e4, e5, e6, e7, e8, e9, e10, e11, e12, e13, e14, e15, Result.andThen_ok]; done)
                          | (have e0 := f0 W hW; have e1 := f1 W hW; have e2 := f2 W hW; have e3 := f3 W hW; have e4 := f4 W hW; have e5 := f5 W hW; have e6 := f6 W hW; have e7 := f7 W hW; have e8 := f8 W hW; have e9 := f9 W hW; have e10 := f10 W hW; have e11 := f11 W hW; have e12 := fa W hW; have e13 := fb W hW; have e14 := fc W hW; have e15 := fd W hW; simp only [e0, e1, e2, e3, e4, e5, e6, e7, e8, e9, e10, e11, e12, e13, e14, e15, Result.andThen_ok]; first | exact ⟨trivial, rfl⟩ | exact rfl | exact ⟨rfl, rfl⟩)
                          | (refine (HNC.out W).mono ?_; rintro e w' ⟨rfl, hb⟩; exact ⟨rfl, hCK _ _ hW hb⟩)
                      go_big_quiet_on)))
            refine wpQuiet_nil ?_
            intro w' hw'
            have hwB := hCB w' hw'
            clear hCK hCd
            go_wp2_with fail
            go_ret
            exact ⟨ret_bool (by simp), hb9.trans (hwB.mono hb9.size)⟩
end Go.Proofs.Ytnagcmfecggllaa
