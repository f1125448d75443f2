/-
  The walk of NodeNodes.
-/
import Derived.Test.YtkmmehhddagijaaDoorNodeB
namespace Go.Proofs.YtkmmehhddagijaaDoor
set_option linter.unusedVariables false
set_option linter.unusedSimpArgs false
open Go.RowKit

def zs128 : List UInt8 := List.replicate 128 0
noncomputable def Z128 : Array Value := (zs128.map fun b => Value.int .u8 b.toNat).toArray
theorem mk_128 (W : World) : (Instr.makeSlice 55 (.int .i64 128) (.int .i64 128)).run Tryd.prog W = .ok (.slice (some ⟨W.heap.size, 0, none⟩) 128 128) (W.alloc (.cells Z128 5)) := by kernel_rfl
theorem cv_128 (W : World) : (convert 55 9 (.slice (some ⟨W.heap.size, 0, none⟩) 128 128)).run Tryd.prog (W.alloc (.cells Z128 5)) = .ok (str zs128) (W.alloc (.cells Z128 5)) :=
  run_convert_bytes_back (P := Tryd.prog) (W.alloc (.cells Z128 5)) 55 9 5 ⟨W.heap.size, 0, none⟩ 128 zs128 Tryd.underlying55 Tryd.underlying5 Tryd.underlying9 (fun j hj => by
    rw [Addr.add_mid, Nat.zero_add]
    refine cell_new rfl ?_
    unfold Z128
    rw [List.getElem?_toArray, List.getElem?_map, List.getElem?_eq_getElem hj]
    rfl)
theorem rn_zeros : rnD zs128 = (0, ptrZ, false, 0) := by
  unfold rnD
  rw [if_neg (by decide +kernel), if_neg (by decide +kernel), if_pos (by decide +kernel)]
theorem nodeL_eq {n : Int} {p : PtrD} (h : nodeOk n p = true) (op : p.Ok) : nodeL n p = layL n.toNat 8 ++ (layL 1 8 ++ (ptrL p ++ List.replicate 48 0)) := by
  simp only [nodeOk, Bool.and_eq_true] at h
  have hl : (layL n.toNat 8 ++ (layL 1 8 ++ ptrL p)).length = 80 := by simp [layL_len, ptrL_len h.2 op]
  unfold nodeL padL
  rw [if_pos (by decide), hl]
  simp only [List.append_assoc]
  rfl
/-- What is laid is read as it was. -/
theorem rn_back {n : Int} {p : PtrD} (h : nodeOk n p = true) (op : p.Ok) : rnD (nodeL n p) = (n, p, true, 0) ∧ (nodeL n p).length = 128 := by
  have he := nodeL_eq h op
  simp only [nodeOk, Bool.and_eq_true, decide_eq_true_eq] at h
  obtain ⟨⟨hn1, hn2⟩, hly⟩ := h
  obtain ⟨b1, b2, b3⟩ := lay_back hly op
  have hlen : (nodeL n p).length = 128 := by rw [he]; simp [layL_len, b3]
  refine ⟨?_, hlen⟩
  generalize nodeL n p = s at *
  have k0 : s.drop 0 = _ := he
  have k1 := drop_step k0 (layL_len _ _)
  have k2 := drop_step k1 (layL_len _ _)
  have k3 := drop_step k2 b3
  have m0 := subN_of k0 rfl (by omega)
  have m1 := subN_of k1 rfl (by omega)
  simp only [Nat.zero_add, Nat.reduceAdd] at m0 m1 k1 k2 k3
  have hr : (s.drop 16).take 64 = ptrL p := by rw [k2, takeApp b3]
  have hz : allZ s = false := by
    unfold allZ
    rw [List.all_eq_false]
    refine ⟨1, ?_, by decide⟩
    rw [he]
    have : (1 : UInt8) ∈ layL 1 8 := by decide
    simp [this]
  unfold rnD
  rw [if_neg (by omega), if_neg (by omega), if_neg (by rw [hz]; simp), m0, if_neg (by omega), m1, if_neg (by simp), hr, if_neg (by rw [b1]; simp), k3, if_pos (by decide), b2, Int.toNat_of_nonneg hn1]

set_option maxRecDepth 100000 in
set_option maxHeartbeats 4000000 in
theorem nodesLaw_any (n : Int) (p : PtrD) (w : World) (op : p.Ok) :
    Calls Tryd.prog 5 #[.agg #[.int .i64 n, .int .i64 p.ag, .int .i64 p.aa, .int .i64 p.bg, .int .i64 p.ba, .bool p.two, .int .i64 p.size, .int .i64 p.level, .int .i64 p.birth, .int .u64 p.s0, .int .u64 p.s1, .int .u64 p.s2, .int .u64 p.s3]] w fun e w' => e = .returned (.bool true) ∧ Below w.heap.size w w' := by
  obtain ⟨w0, hw0⟩ : ∃ w0, w0 = w.alloc (.cells #[.int .i64 n, .int .i64 p.ag, .int .i64 p.aa, .int .i64 p.bg, .int .i64 p.ba, .bool p.two, .int .i64 p.size, .int .i64 p.level, .int .i64 p.birth, .int .u64 p.s0, .int .u64 p.s1, .int .u64 p.s2, .int .u64 p.s3] 50) := ⟨_, rfl⟩
  have hb0 : Below w.heap.size w w0 := by rw [hw0]; exact (Below.refl _ _).alloc (Nat.le_refl _) _
  have hs0 : w.heap.size < w0.heap.size := by rw [hw0]; simp
  have HB0 : Hid (Blk w0 w.heap.size 50 #[.int .i64 n, .int .i64 p.ag, .int .i64 p.aa, .int .i64 p.bg, .int .i64 p.ba, .bool p.two, .int .i64 p.size, .int .i64 p.level, .int .i64 p.birth, .int .u64 p.s0, .int .u64 p.s1, .int .u64 p.s2, .int .u64 p.s3]) := by rw [hw0]; exact Lib.hid (Blk.new _ _ _)
  have HNB := Lib.hid fun W => nbytes_any n p W op
  have hmk := mk_128
  have hcv := cv_128
  have HZ : Hid (∀ W, Calls Tryd.prog 14 #[str zs128] W fun e w' => e = .returned (.tuple #[.agg #[.int .i64 0, .int .i64 0, .int .i64 0, .int .i64 0, .int .i64 0, .bool false, .int .i64 0, .int .i64 0, .int .i64 0, .int .u64 0, .int .u64 0, .int .u64 0, .int .u64 0], .bool false, .int .i64 0]) ∧ Below W.heap.size W w') := Lib.hid fun W => by
    have := rn_any zs128 W (by decide +kernel)
    rw [rn_zeros] at this
    exact this
  have HO : Hid (nodeOk n p = true → rnD (nbS n p) = (n, p, true, 0) ∧ (nbS n p).length = 128) := Lib.hid fun h => by
    unfold nbS; rw [if_pos h]; exact rn_back h op
  have HE : Hid ((nodeOk n p = true ∧ nbE n p = 0) ∨ (nbE n p = 1 ∧ nbS n p = [])) := by
    unfold Hid nbE nbS
    cases nodeOk n p <;> simp
  generalize zs128 = zz at *
  rcases HE.out with ⟨hok, he⟩ | ⟨he, hs⟩
  · obtain ⟨ho1, ho2⟩ := HO.out hok
    have HR : Hid (∀ W, Calls Tryd.prog 14 #[str (nbS n p)] W fun e w' => e = .returned (.tuple #[.agg #[.int .i64 n, .int .i64 p.ag, .int .i64 p.aa, .int .i64 p.bg, .int .i64 p.ba, .bool p.two, .int .i64 p.size, .int .i64 p.level, .int .i64 p.birth, .int .u64 p.s0, .int .u64 p.s1, .int .u64 p.s2, .int .u64 p.s3], .bool true, .int .i64 0]) ∧ Below W.heap.size W w') := Lib.hid fun W => by
      have := rn_any (nbS n p) W (by omega)
      rw [ho1] at this
      exact this
    rw [he] at HNB
    have hl1 : (nbS n p).length ≤ 128 := by omega
    have hl2 : 128 ≤ (nbS n p).length := by omega
    clear HE HO hok he ho1 ho2
    generalize nbS n p = S at *
    have heq : ∀ W, (binOp .eql 50 (.agg #[.int .i64 n, .int .i64 p.ag, .int .i64 p.aa, .int .i64 p.bg, .int .i64 p.ba, .bool p.two, .int .i64 p.size, .int .i64 p.level, .int .i64 p.birth, .int .u64 p.s0, .int .u64 p.s1, .int .u64 p.s2, .int .u64 p.s3]) (.agg #[.int .i64 n, .int .i64 p.ag, .int .i64 p.aa, .int .i64 p.bg, .int .i64 p.ba, .bool p.two, .int .i64 p.size, .int .i64 p.level, .int .i64 p.birth, .int .u64 p.s0, .int .u64 p.s1, .int .u64 p.s2, .int .u64 p.s3])).run Tryd.prog W = .ok (.bool true) W := fun W => by
      rw [eql_node, show ptrEq p p = true from decide_eq_true rfl]; simp
    go_enter Tryd.func5, Tryd.ntmps5
    go_wp2_with fail
    rw [← hw0]
    clear hw0
    refine (HNB.out _).mono ?_
    rintro e w1 ⟨rfl, hb1⟩
    have hd1 := keep_below hb1 hb0
    have HB1 := Lib.hid (HB0.out.below hb1 hs0)
    have hs1 : w.heap.size < w1.heap.size := keep_size hb1 hs0
    go_wp2_with fail
    refine (HZ.out _).mono ?_
    rintro e w2 ⟨rfl, hb2⟩
    have hd2 := keep_below hb2 (keep_alloc hd1 _)
    have HB2 := Lib.hid ((HB1.out.alloc _).below hb2 (by simp; omega))
    have hs2 : w.heap.size < w2.heap.size := keep_size hb2 (by simp; omega)
    go_wp2_with fail
    refine (awake13_any _).mono ?_
    rintro e w3 ⟨rfl, hb3⟩
    have hd3 := keep_below hb3 (keep_alloc hd2 _)
    have HB3 := Lib.hid ((HB2.out.alloc _).below hb3 (by simp; omega))
    have hs3 : w.heap.size < w3.heap.size := keep_size hb3 (by simp; omega)
    go_wp2_with fail
    refine (HR.out _).mono ?_
    rintro e w4 ⟨rfl, hb4⟩
    have hd4 := keep_below hb4 hd3
    have hB4 := HB3.out.below hb4 hs3
    have hs4 : w.heap.size < w4.heap.size := keep_size hb4 hs3
    have n0 := hB4.at_ (i := 0) (v := .int .i64 n) rfl
    have n1 := hB4.at_ (i := 1) (v := .int .i64 p.ag) rfl
    have n2 := hB4.at_ (i := 2) (v := .int .i64 p.aa) rfl
    have n3 := hB4.at_ (i := 3) (v := .int .i64 p.bg) rfl
    have n4 := hB4.at_ (i := 4) (v := .int .i64 p.ba) rfl
    have n5 := hB4.at_ (i := 5) (v := .bool p.two) rfl
    have n6 := hB4.at_ (i := 6) (v := .int .i64 p.size) rfl
    have n7 := hB4.at_ (i := 7) (v := .int .i64 p.level) rfl
    have n8 := hB4.at_ (i := 8) (v := .int .i64 p.birth) rfl
    have n9 := hB4.at_ (i := 9) (v := .int .u64 p.s0) rfl
    have n10 := hB4.at_ (i := 10) (v := .int .u64 p.s1) rfl
    have n11 := hB4.at_ (i := 11) (v := .int .u64 p.s2) rfl
    have n12 := hB4.at_ (i := 12) (v := .int .u64 p.s3) rfl
    clear hB4
    go_wp2_with fail
    all_goals go_ret
    all_goals exact ⟨ret_bool (by first | (simp; done) | (simp; omega)), keep_alloc hd4 _⟩
  · rw [he, hs] at HNB
    clear HE HO he hs
    go_enter Tryd.func5, Tryd.ntmps5
    go_wp2_with fail
    rw [← hw0]
    clear hw0
    refine (HNB.out _).mono ?_
    rintro e w1 ⟨rfl, hb1⟩
    have hd1 := keep_below hb1 hb0
    go_wp2_with fail
    refine (HZ.out _).mono ?_
    rintro e w2 ⟨rfl, hb2⟩
    have hd2 := keep_below hb2 (keep_alloc hd1 _)
    go_wp2_with fail
    refine (awake13_any _).mono ?_
    rintro e w3 ⟨rfl, hb3⟩
    have hd3 := keep_below hb3 (keep_alloc hd2 _)
    go_wp2_with fail
    refine (awake13_any _).mono ?_
    rintro e w4 ⟨rfl, hb4⟩
    have hd4 := keep_below hb4 hd3
    go_wp2_with fail
    all_goals go_ret
    all_goals exact ⟨ret_bool (by simp), hd4⟩
end Go.Proofs.YtkmmehhddagijaaDoor
