/-
  The contract of node.Bytes; == on nodes.
-/
import Derived.Test.YtidmbibpoldgcaaNodeRd
namespace Go.Proofs.Ytidmbibpoldgcaa
set_option linter.unusedVariables false
set_option linter.unusedSimpArgs false
open Go.RowKit

def nodeOk (n : Int) (p : PtrD) : Bool := decide (0 ≤ n ∧ n ≤ 4611686018427387903) && layOk p
def nodeL (n : Int) (p : PtrD) : List UInt8 := padL (layL n.toNat 8 ++ (layL 1 8 ++ ptrL p)) 128
def nbS (n : Int) (p : PtrD) : List UInt8 := if nodeOk n p then nodeL n p else []
def nbE (n : Int) (p : PtrD) : Int := if nodeOk n p then 0 else 1
theorem nodeAt_new' (w : World) (n : Int) (p : PtrD) (t : TypeId) : PtrAt (w.alloc (.cells #[.int .i64 n, .int .i64 p.ag, .int .i64 p.aa, .int .i64 p.bg, .int .i64 p.ba, .bool p.two, .int .i64 p.size, .int .i64 p.level, .int .i64 p.birth, .int .u64 p.s0, .int .u64 p.s1, .int .u64 p.s2, .int .u64 p.s3] t)) w.heap.size 1 p :=
  ⟨cell_new rfl rfl, cell_new rfl rfl, cell_new rfl rfl, cell_new rfl rfl, cell_new rfl rfl, cell_new rfl rfl, cell_new rfl rfl, cell_new rfl rfl, cell_new rfl rfl, cell_new rfl rfl, cell_new rfl rfl, cell_new rfl rfl⟩
theorem ptrL_len {p : PtrD} (h : layOk p = true) (op : p.Ok) : (ptrL p).length = 64 := (lay_back h op).2.2

set_option maxRecDepth 100000 in
set_option maxHeartbeats 2000000 in
theorem nbytes_any (n : Int) (p : PtrD) (w : World) (op : p.Ok) :
    Calls Try.prog 23 #[.agg #[.int .i64 n, .int .i64 p.ag, .int .i64 p.aa, .int .i64 p.bg, .int .i64 p.ba, .bool p.two, .int .i64 p.size, .int .i64 p.level, .int .i64 p.birth, .int .u64 p.s0, .int .u64 p.s1, .int .u64 p.s2, .int .u64 p.s3]] w fun e w' => e = .returned (.tuple #[str (nbS n p), .int .i64 (nbE n p)]) ∧ Below w.heap.size w w' := by
  obtain ⟨w0, hw0⟩ : ∃ w0, w0 = w.alloc (.cells #[.int .i64 n, .int .i64 p.ag, .int .i64 p.aa, .int .i64 p.bg, .int .i64 p.ba, .bool p.two, .int .i64 p.size, .int .i64 p.level, .int .i64 p.birth, .int .u64 p.s0, .int .u64 p.s1, .int .u64 p.s2, .int .u64 p.s3] 30) := ⟨_, rfl⟩
  have hb0 : Below w.heap.size w w0 := by rw [hw0]; exact (Below.refl _ _).alloc (Nat.le_refl _) _
  have hs0 : w.heap.size < w0.heap.size := by rw [hw0]; simp
  have HP0 : Hid (PtrAt w0 w.heap.size 1 p) := by rw [hw0]; exact Lib.hid (nodeAt_new' w n p 30)
  have k0 : w0.cell? ⟨w.heap.size, 0, none⟩ = some (.int .i64 n) := by rw [hw0]; exact cell_new rfl rfl
  by_cases hn : 0 ≤ n ∧ n ≤ 4611686018427387903
  · have hi : intL n = layL n.toNat 8 := by unfold intL; rw [if_pos hn]
    have hi1 : intL 1 = layL 1 8 := by unfold intL; rw [if_pos (by omega)]; rfl
    have HI : Hid (∀ W, Calls Try.prog 24 #[.int .i64 n] W fun e w' => e = .returned (str (layL n.toNat 8)) ∧ Below W.heap.size W w') := Lib.hid fun W => by have := int_any n W; rw [hi] at this; exact this
    have HI1 : Hid (∀ W, Calls Try.prog 24 #[.int .i64 1] W fun e w' => e = .returned (str (layL 1 8)) ∧ Below W.heap.size W w') := Lib.hid fun W => by have := int_any 1 W; rw [hi1] at this; exact this
    have hx0 : (layL n.toNat 8).isEmpty = false := by rw [List.isEmpty_eq_false_iff]; exact layL_ne (by omega)
    have l0 := layL_len n.toNat 8
    have l1 := layL_len 1 8
    clear hi hi1
    cases hly : layOk p with
    | true =>
      have hok : nodeOk n p = true := by unfold nodeOk; rw [decide_eq_true hn, hly]; rfl
      have hpl := ptrL_len hly op
      have HPB : Hid (∀ W, Calls Try.prog 25 #[.agg #[.int .i64 p.ag, .int .i64 p.aa, .int .i64 p.bg, .int .i64 p.ba, .bool p.two, .int .i64 p.size, .int .i64 p.level, .int .i64 p.birth, .int .u64 p.s0, .int .u64 p.s1, .int .u64 p.s2, .int .u64 p.s3]] W fun e w' => e = .returned (.tuple #[str (ptrL p), .int .i64 0]) ∧ Below W.heap.size W w') := Lib.hid fun W => by
        have := pbytes_any p W op; rw [hly] at this; exact this
      have HPD := Lib.hid fun W => pad_any (layL n.toNat 8 ++ layL 1 8 ++ ptrL p) 128 W (by rw [List.length_append, List.length_append]; omega)
      have HR : Hid (str (nbS n p) = str (padL (layL n.toNat 8 ++ (layL 1 8 ++ ptrL p)) 128) ∧ nbE n p = 0) := by
        unfold Hid nbS nbE; rw [hok]; unfold nodeL; exact ⟨rfl, rfl⟩
      clear hok hly hn
      generalize layL n.toNat 8 = x0 at *
      generalize layL 1 8 = x1 at *
      generalize ptrL p = x2 at *
      have k1 : x0.length + x1.length ≤ 9223372036854775807 := by omega
      have k2 : x0.length + x1.length + x2.length ≤ 9223372036854775807 := by omega
      clear l0 l1 hpl
      have hxx : (x0 == []) = false := by cases x0 with | nil => simp at hx0 | cons _ _ => rfl
      go_enter Try.func23, Try.ntmps23
      go_wp2_with fail
      rw [← hw0]
      clear hw0
      refine (HI.out _).mono ?_
      rintro e w1 ⟨rfl, hb1⟩
      have hd1 := keep_below hb1 hb0
      have hP1 := HP0.out.keep hb1 hs0
      obtain ⟨p0, p1, p2, p3, p4, p5, p6, p7, p8, p9, pa, pb⟩ := hP1
      simp only [Nat.reduceAdd] at p1 p2 p3 p4 p5 p6 p7 p8 p9 pa pb
      go_wp2_with fail
      refine (HPB.out _).mono ?_
      rintro e w2 ⟨rfl, hb2⟩
      have hd2 := keep_below hb2 hd1
      go_wp2_with fail
      refine (HI1.out _).mono ?_
      rintro e w3 ⟨rfl, hb3⟩
      have hd3 := keep_below hb3 hd2
      go_wp2_with fail
      rw [ByteArray.mk_append_mk, ByteArray.mk_append_mk]
      refine (HPD.out _).mono ?_
      rintro e w4 ⟨rfl, hb4⟩
      go_wp2_with fail
      go_ret2
      exact ⟨by rw [HR.out.1, HR.out.2]; rfl, keep_below hb4 hd3⟩
    | false =>
      have hok : nodeOk n p = false := by unfold nodeOk; rw [hly, Bool.and_false]
      have HPB : Hid (∀ W, Calls Try.prog 25 #[.agg #[.int .i64 p.ag, .int .i64 p.aa, .int .i64 p.bg, .int .i64 p.ba, .bool p.two, .int .i64 p.size, .int .i64 p.level, .int .i64 p.birth, .int .u64 p.s0, .int .u64 p.s1, .int .u64 p.s2, .int .u64 p.s3]] W fun e w' => e = .returned (.tuple #[str [], .int .i64 1]) ∧ Below W.heap.size W w') := Lib.hid fun W => by
        have := pbytes_any p W op; rw [hly] at this; exact this
      have HR : Hid (str (nbS n p) = str [] ∧ nbE n p = 1) := by
        unfold Hid nbS nbE; rw [hok]; exact ⟨rfl, rfl⟩
      clear hok hly hn l0 l1
      generalize layL n.toNat 8 = x0 at *
      have hxx : (x0 == []) = false := by cases x0 with | nil => simp at hx0 | cons _ _ => rfl
      go_enter Try.func23, Try.ntmps23
      go_wp2_with fail
      rw [← hw0]
      clear hw0
      refine (HI.out _).mono ?_
      rintro e w1 ⟨rfl, hb1⟩
      have hd1 := keep_below hb1 hb0
      have hP1 := HP0.out.keep hb1 hs0
      obtain ⟨p0, p1, p2, p3, p4, p5, p6, p7, p8, p9, pa, pb⟩ := hP1
      simp only [Nat.reduceAdd] at p1 p2 p3 p4 p5 p6 p7 p8 p9 pa pb
      go_wp2_with fail
      refine (HPB.out _).mono ?_
      rintro e w2 ⟨rfl, hb2⟩
      have hd2 := keep_below hb2 hd1
      go_wp2_with fail
      go_ret2
      exact ⟨by rw [HR.out.1, HR.out.2]; rfl, hd2⟩
  · have hi : intL n = [] := by unfold intL; rw [if_neg hn]
    have HI : Hid (∀ W, Calls Try.prog 24 #[.int .i64 n] W fun e w' => e = .returned (str []) ∧ Below W.heap.size W w') := Lib.hid fun W => by have := int_any n W; rw [hi] at this; exact this
    have hok : nodeOk n p = false := by unfold nodeOk; rw [decide_eq_false hn]; rfl
    have HR : Hid (str (nbS n p) = str [] ∧ nbE n p = 1) := by
      unfold Hid nbS nbE; rw [hok]; exact ⟨rfl, rfl⟩
    clear hok hn hi
    go_enter Try.func23, Try.ntmps23
    go_wp2_with fail
    rw [← hw0]
    clear hw0
    refine (HI.out _).mono ?_
    rintro e w1 ⟨rfl, hb1⟩
    go_wp2_with fail
    go_ret2
    exact ⟨by rw [HR.out.1, HR.out.2]; rfl, keep_below hb1 hb0⟩

theorem Try.stoodNode : Try.prog.stoodInHeld 30 = false := by kernel_rfl
theorem eqIn_ptr (p q : PtrD) (d : Nat) (w : World) : (Op.equalIn (d + 3) 28 (.agg #[.int .i64 p.ag, .int .i64 p.aa, .int .i64 p.bg, .int .i64 p.ba, .bool p.two, .int .i64 p.size, .int .i64 p.level, .int .i64 p.birth, .int .u64 p.s0, .int .u64 p.s1, .int .u64 p.s2, .int .u64 p.s3]) (.agg #[.int .i64 q.ag, .int .i64 q.aa, .int .i64 q.bg, .int .i64 q.ba, .bool q.two, .int .i64 q.size, .int .i64 q.level, .int .i64 q.birth, .int .u64 q.s0, .int .u64 q.s1, .int .u64 q.s2, .int .u64 q.s3])).run Try.prog w = .ok (ptrEq p q) w := by
  obtain ⟨a1, a2, a3, a4, a5, a6, a7, a8, a9, aa, ab, ac⟩ := p
  obtain ⟨b1, b2, b3, b4, b5, b6, b7, b8, b9, ba, bb, bc⟩ := q
  rw [run_equalIn_struct w (d + 2) _ _ _ (by kernel_rfl) Try.stoodPtr]
  simp [go_sem, Try.underlying28, eqIn_place, eqIn_sum, ptrEq]
  repeat' split
  all_goals (congr 1; try simp_all)
  all_goals grind
theorem eql_node (n m : Int) (p q : PtrD) (w : World) : (binOp .eql 30 (.agg #[.int .i64 n, .int .i64 p.ag, .int .i64 p.aa, .int .i64 p.bg, .int .i64 p.ba, .bool p.two, .int .i64 p.size, .int .i64 p.level, .int .i64 p.birth, .int .u64 p.s0, .int .u64 p.s1, .int .u64 p.s2, .int .u64 p.s3]) (.agg #[.int .i64 m, .int .i64 q.ag, .int .i64 q.aa, .int .i64 q.bg, .int .i64 q.ba, .bool q.two, .int .i64 q.size, .int .i64 q.level, .int .i64 q.birth, .int .u64 q.s0, .int .u64 q.s1, .int .u64 q.s2, .int .u64 q.s3])).run Try.prog w = .ok (.bool (n == m && ptrEq p q)) w := by
  rw [run_eql_struct, run_equalIn_struct w 9999 _ _ _ (by kernel_rfl) Try.stoodNode]
  simp [go_sem, Try.underlying30, eqIn_ptr]
  by_cases h1 : n = m <;> cases ptrEq p q <;> simp [h1]
end Go.Proofs.Ytidmbibpoldgcaa
