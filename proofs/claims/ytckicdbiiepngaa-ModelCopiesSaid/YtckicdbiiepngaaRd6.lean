/-
  What an act comes to, by the document: what is refused at once.
-/
import Derived.Test.YtckicdbiiepngaaRd5
namespace Go.Proofs.Ytckicdbiiepngaa
set_option linter.unusedVariables false
set_option linter.unusedSimpArgs false
open Go.RowKit Go.Maps Go.Lib Go.Shelf

/-- What an act's call answers. -/
def RdoP (w : World) (cs : Array Value) (a' : AllA) (e : Ending) (w' : World) : Prop := ∃ cs' er, e = .returned (.tuple #[.agg cs', .int .i64 er]) ∧ (RefW w' cs' a' ∧ (cs' = cs ∨ ∀ b, ownB cs' b → w.heap.size ≤ b ∧ b < w'.heap.size)) ∧ Below w.heap.size w w'

theorem act_out {a : AllA} {x : MAct} (h4 : x.do_ % 8 ≤ 4) (h : x.id < 0 ∨ 31 < x.id) : actA a x = a := by
  have hm : mayE x.id = 1 := by unfold mayE; rw [if_pos (by omega)]
  have hh : hasE a.live x.id = 1 := by unfold hasE; rw [if_pos (by rw [hm]; decide), hm]
  unfold actA
  split
  · unfold truA; rw [if_neg (by rw [hh]; omega)]
  · split
    · unfold remA; rw [if_neg (by rw [hh]; omega)]
    · rw [if_neg (by omega), if_neg (by omega), if_neg (by omega)]
      unfold wriA wrE
      rw [if_neg (by rw [if_pos (by rw [hm]; decide), hm]; decide)]


set_option maxRecDepth 20000 in
theorem rdo_out {w : World} {cs : Array Value} {a : AllA} (h : RefW w cs a) (x : MAct) (hx : x.Ok) (h4 : x.do_ % 8 ≤ 4) (hid : x.id < 0 ∨ 31 < x.id) :
    Calls Try.prog 11 #[.agg cs, .agg #[.int .u8 x.do_, .int .i64 x.id, .int .i64 x.off, .int .i64 x.n, .int .u8 x.fill.toNat]] w fun e w' => RdoP w cs (actA a x) e w' := by
  rw [act_out h4 hid]
  obtain ⟨dn, id, off, n, fill⟩ := x
  simp only at h4 hid
  have H := Lib.hid h
  have HX := Lib.hid hx
  obtain ⟨A1, c1, A2, c2, hcs, hr1, hr2, hc1, hc2⟩ := h
  have hcsz : cs.size = 66 := by rw [hcs, wV_size (setL_len _)]
  have hi33 : (Try.prog.info? 33).map (·.size) = some cs.size := by rw [hcsz]; kernel_rfl
  have h1c : cs.all (·.oneCell') = true := by rw [hcs]; exact wV_one (setL_one _)
  obtain ⟨w1, hw1⟩ : ∃ x, x = ((w.alloc (.cells cs 33)).alloc (.cells #[.int .u8 dn, .int .i64 id, .int .i64 off, .int .i64 n, .int .u8 fill.toNat] 37)).alloc (.cells zW 33) := ⟨_, rfl⟩
  have X0 : Blk w1 w.heap.size 33 cs := by rw [hw1]; exact ((Blk.new w _ _).alloc _).alloc _
  have X1 : Blk w1 (w.heap.size + 1) 37 #[.int .u8 dn, .int .i64 id, .int .i64 off, .int .i64 n, .int .u8 fill.toNat] := by rw [hw1]; exact (Blk.new2 w _ _ _).alloc _
  have X2 : Blk w1 (w.heap.size + 2) 33 zW := by
    rw [hw1]
    have := Blk.new2 (w.alloc (.cells cs 33)) (.cells #[.int .u8 dn, .int .i64 id, .int .i64 off, .int .i64 n, .int .u8 fill.toNat] 37) 33 zW
    simpa using this
  have hb1 : Below w.heap.size w w1 := by rw [hw1]; exact keep_alloc (keep_alloc (keep_alloc (Below.refl _ _) _) _) _
  have hs1 : w1.heap.size = w.heap.size + 3 := by rw [hw1]; simp
  have HRES := Lib.hid (X2.putAll cs (by rw [zW_size, hcsz]))
  have hth := X2.there (o := 0) (n := cs.size) (by rw [zW_size, hcsz]; omega)
  have HBR := Lib.hid (below_sets (g := w.heap.size + 2) cs.toList 0 hb1 (by omega))
  have a0 := X1.at_ (i := 0) rfl
  have a1 := X1.at_ (i := 1) rfl
  obtain ⟨q, hq4, hq⟩ : ∃ q : Nat, q ≤ 4 ∧ (dn : Int).tmod 8 = (q : Int) := ⟨dn % 8, h4, mod_eq 8 rfl⟩
  have HX0 := Lib.hid X0
  have HW1 := Lib.hid hw1.symm
  simp only
  clear hw1 hx hcs hr1 hr2 hb1 hs1 X0 X1 X2 h4
  go_enter Try.func11, Try.ntmps11
  by_cases hi0 : id < 0
  all_goals
    go_wp2_with (first
      | ((with_reducible refine wpList_box_want ?q1 33 (.tmp 0) ?q2 cs ?q3 w.heap.size ?q4 ?_); (case q2 => rfl); (case q3 => rfl); (case q4 => rfl); (case q1 => rfl); simp only [Act.put, List.setIfInBounds_toArray, List.set_cons_zero, List.set_cons_succ])
      | ((with_reducible refine wpList_alloc_want ?q1 33 ?q2 zW zW_is (w.heap.size + 2) ?q4 w1 HW1.out ?_); (case q2 => rfl); (case q4 => simp); (case q1 => rfl); simp only [Act.put, List.setIfInBounds_toArray, List.set_cons_zero, List.set_cons_succ])
      | ((with_reducible refine wpList_load_want ?qw 33 (.tmp 2) ?q2 w.heap.size ?q3 33 cs _ HX0.out Try.underlying33 rfl hi33 ?_); (case q2 => rfl); (case q3 => rfl); (case qw => rfl); simp only [Act.put, List.setIfInBounds_toArray, List.set_cons_zero, List.set_cons_succ])
      | ((with_reducible refine wpList_store_mid ?a1 33 (.tmp 4) (.tmp 25) ?a2 (w.heap.size + 2) 0 cs ?a3 ?a4 hth hi33 h1c ?_); (case a1 => rfl); (case a2 => rfl); (case a3 => rfl); (case a4 => rfl); simp only [Act.put, List.setIfInBounds_toArray, List.set_cons_zero, List.set_cons_succ])
      )
    refine bodyPost_ret (v := .tuple #[.agg cs, .int .i64 1]) (results_cell_slot rfl _ _ (w.heap.size + 2) 33 cs (0, 0) _ rfl HRES.out Try.underlying33 rfl hi33 _ rfl) rfl ⟨cs, 1, rfl, ?_, HBR.out⟩
    exact ⟨H.out.below HBR.out, .inl rfl⟩
end Go.Proofs.Ytckicdbiiepngaa
