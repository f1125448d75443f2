/-
  The walk of PtrBack.
-/
import Derived.Test.YtnagcmfecggllaaDoorPtrR
import Derived.Test.YtnagcmfecggllaaDoorPtrPlacesW
namespace Go.Proofs.YtnagcmfecggllaaDoor
set_option linter.unusedVariables false
set_option linter.unusedSimpArgs false
open Go.RowKit

/-- ptr.Read, its two ways. -/
theorem pread_two (s : List UInt8) (hl : s.length ≤ 140737488351232) : ∃ (q : PtrD) (es : Int), (es = 0 ∧ layOk q = true ∧ ptrL q = s ∧ q.Ok ∨ es ≠ 0 ∧ q = ptrZ) ∧
    ∀ w, Calls Tryd.prog 7 #[str s] w fun e' w' => e' = .returned (.tuple #[.agg #[.int .i64 q.ag, .int .i64 q.aa, .int .i64 q.bg, .int .i64 q.ba, .bool q.two, .int .i64 q.size, .int .i64 q.level, .int .i64 q.birth, .int .u64 q.s0, .int .u64 q.s1, .int .u64 q.s2, .int .u64 q.s3], .int .i64 es]) ∧ Below w.heap.size w w' := by
  refine ⟨readV s, readE s, ?_, fun w => pread_any s w hl⟩
  unfold readV
  by_cases h : readE s = 0
  · rw [if_pos h]; exact .inl ⟨h, readP_lay s, read_back h, readP_ok s⟩
  · rw [if_neg h]; exact .inr ⟨h, rfl⟩

set_option maxRecDepth 100000 in
set_option maxHeartbeats 4000000 in
theorem backLaw9_any (p : PtrD) (s : List UInt8) (w : World) (op : p.Ok) (hl : s.length ≤ 9223372036854775807) :
    Calls Tryd.prog 3 #[.agg p.cells, str s] w fun e w' => e = .returned (.bool true) ∧ Below w.heap.size w w' := by
  have hb0 : Below w.heap.size w (w.alloc (.cells p.cells 28)) := (Below.refl _ _).alloc (Nat.le_refl _) _
  have hs0 : w.heap.size < (w.alloc (.cells p.cells 28)).heap.size := by simp
  have HP0 := Lib.hid (PtrAt.new w p 28)
  go_enter Tryd.func3, Tryd.ntmps3
  go_wp2_with fail
  refine (awake9_any _).mono ?_
  rintro e w1 ⟨rfl, hb1⟩
  have HP1 := Lib.hid (HP0.out.keep hb1 hs0)
  have hb2 := hb0.trans (hb1.mono hb0.size)
  have hs1 : w.heap.size < _ := keep_size hb1 hs0
  clear HP0 hb1 hb0 hs0
  by_cases hn : 3000 < s.length
  · go_wp2_with fail
    refine (awake9_any _).mono ?_
    rintro e w2 ⟨rfl, hb3⟩
    go_wp2_with fail
    go_ret
    exact ⟨rfl, hb2.trans (hb3.mono hb2.size)⟩
  · obtain ⟨q, es, hcs, hRS⟩ := pread_two s (by omega)
    have HRS := Lib.hid hRS
    clear hRS
    obtain ⟨sp, ep, hcp, hBP⟩ := pbytes_two p op
    have HBP := Lib.hid hBP
    clear hBP
    have h := HP1.out
    obtain ⟨p0, p1, p2, p3, p4, p5, p6, p7, p8, p9, pa, pb⟩ := h
    simp only [Nat.zero_add] at p1 p2 p3 p4 p5 p6 p7 p8 p9 pa pb
    go_wp2_with fail
    refine (HBP.out _).mono ?_
    rintro e w2 ⟨rfl, hb3⟩
    have HP2 := Lib.hid (HP1.out.keep hb3 (by omega))
    have hb4 := hb2.trans (hb3.mono hb2.size)
    have hs2 : w.heap.size < _ := keep_size hb3 hs1
    clear p0 p1 p2 p3 p4 p5 p6 p7 p8 p9 pa pb HP1 hb3
    rcases hcp with ⟨hlp, rfl, rfl⟩ | ⟨hlp, rfl⟩
    · obtain ⟨r1, r2, r3⟩ := lay_back hlp op
      have rv : readV (ptrL p) = p := by unfold readV; rw [if_pos r1, r2]
      have HRD : Hid (∀ W, Calls Tryd.prog 7 #[str (ptrL p)] W fun e w' => e = .returned (.tuple #[.agg #[.int .i64 p.ag, .int .i64 p.aa, .int .i64 p.bg, .int .i64 p.ba, .bool p.two, .int .i64 p.size, .int .i64 p.level, .int .i64 p.birth, .int .u64 p.s0, .int .u64 p.s1, .int .u64 p.s2, .int .u64 p.s3], .int .i64 0]) ∧ Below W.heap.size W w') := Lib.hid fun W => by
        have := pread_any (ptrL p) W (by omega)
        rw [rv, r1] at this
        exact this
      have hl64 : (ptrL p).length ≤ 64 := by omega
      have hl65 : 64 ≤ (ptrL p).length := by omega
      clear r1 r2 r3 rv hlp
      generalize ptrL p = sp at *
      go_wp2_with fail
      refine (HRD.out _).mono ?_
      rintro e w3 ⟨rfl, hb5⟩
      have HP3 := Lib.hid (HP2.out.keep hb5 (by omega))
      have hb6 := hb4.trans (hb5.mono hb4.size)
      have hs3 : w.heap.size < _ := keep_size hb5 hs2
      clear HP2 hb5
      have hne : ∀ W, (binOp .neq 28 (.agg #[.int .i64 p.ag, .int .i64 p.aa, .int .i64 p.bg, .int .i64 p.ba, .bool p.two, .int .i64 p.size, .int .i64 p.level, .int .i64 p.birth, .int .u64 p.s0, .int .u64 p.s1, .int .u64 p.s2, .int .u64 p.s3]) (.agg #[.int .i64 p.ag, .int .i64 p.aa, .int .i64 p.bg, .int .i64 p.ba, .bool p.two, .int .i64 p.size, .int .i64 p.level, .int .i64 p.birth, .int .u64 p.s0, .int .u64 p.s1, .int .u64 p.s2, .int .u64 p.s3])).run Tryd.prog W = .ok (.bool false) W := fun W => by
        have := neq_ptr p p W
        rw [show ptrEq p p = true from decide_eq_true rfl] at this
        exact this
      have h := HP3.out
      obtain ⟨p0, p1, p2, p3, p4, p5, p6, p7, p8, p9, pa, pb⟩ := h
      simp only [Nat.zero_add] at p1 p2 p3 p4 p5 p6 p7 p8 p9 pa pb
      go_wp2_with fail
      refine (HRS.out _).mono ?_
      rintro e w8 ⟨rfl, hb8⟩
      have hb9 : Below w.heap.size w w8 := keep_below hb8 (by first | exact hb6 | exact hb4 | exact keep_alloc hb6 _ | exact keep_alloc hb4 _)
      clear hb8
      rcases hcs with ⟨rfl, hlq, hqs, oq⟩ | ⟨he0, rfl⟩
      · have HPB := Lib.hid fun W => pbytes_any q W oq
        rw [hlq, if_pos rfl, if_pos rfl, hqs] at HPB
        go_wp2_with fail
        refine (HPB.out _).mono ?_
        rintro e w10 ⟨rfl, hb10⟩
        have hb11 : Below w.heap.size w w10 := keep_below hb10 (by first | exact hb9 | exact keep_alloc hb9 _)
        go_wp2_with fail
        all_goals go_ret
        all_goals exact ⟨ret_bool (by simp), hb11⟩
      · have hq1 : (es != 0) = true := by simpa using he0
        have HNC := Lib.hid fun W => none_any ptrZ W
        rw [show noneB ptrZ = true from (decide_eq_true rfl : decide (ptrZ = ptrZ) = true)] at HNC
        go_wp2_with fail
        refine (HNC.out _).mono ?_
        rintro e w10 ⟨rfl, hb10⟩
        have hb11 : Below w.heap.size w w10 := keep_below hb10 (by first | exact hb9 | exact keep_alloc hb9 _)
        go_wp2_with fail
        go_ret
        exact ⟨rfl, hb11⟩
    · go_wp2_with fail
      refine (HRS.out _).mono ?_
      rintro e w8 ⟨rfl, hb8⟩
      have hb9 : Below w.heap.size w w8 := keep_below hb8 (by first | exact hb6 | exact hb4 | exact keep_alloc hb6 _ | exact keep_alloc hb4 _)
      clear hb8
      rcases hcs with ⟨rfl, hlq, hqs, oq⟩ | ⟨he0, rfl⟩
      · have HPB := Lib.hid fun W => pbytes_any q W oq
        rw [hlq, if_pos rfl, if_pos rfl, hqs] at HPB
        go_wp2_with fail
        refine (HPB.out _).mono ?_
        rintro e w10 ⟨rfl, hb10⟩
        have hb11 : Below w.heap.size w w10 := keep_below hb10 (by first | exact hb9 | exact keep_alloc hb9 _)
        go_wp2_with fail
        all_goals go_ret
        all_goals exact ⟨ret_bool (by simp), hb11⟩
      · have hq1 : (es != 0) = true := by simpa using he0
        have HNC := Lib.hid fun W => none_any ptrZ W
        rw [show noneB ptrZ = true from (decide_eq_true rfl : decide (ptrZ = ptrZ) = true)] at HNC
        go_wp2_with fail
        refine (HNC.out _).mono ?_
        rintro e w10 ⟨rfl, hb10⟩
        have hb11 : Below w.heap.size w w10 := keep_below hb10 (by first | exact hb9 | exact keep_alloc hb9 _)
        go_wp2_with fail
        go_ret
        exact ⟨rfl, hb11⟩
end Go.Proofs.YtnagcmfecggllaaDoor
