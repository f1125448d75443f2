/-
  The contract of an index's text.
-/
import Derived.Test.YtkmmehhddagijaaDoorNodeB
import Derived.Test.YtkmmehhddagijaaDoorNodeP
import Derived.Test.YtkmmehhddagijaaDoorLawQ
namespace Go.Proofs.YtkmmehhddagijaaDoor
set_option linter.unusedVariables false
set_option linter.unusedSimpArgs false
open Go.RowKit

theorem _root_.Go.Lib.IsBuilder.keep {T e : TypeId} {B b : Nat} {bs : List Value} {W W' : World} (h : Lib.IsBuilder T e B b bs W) (hb : Below W.heap.size W W') : Lib.IsBuilder T e B b bs W' := by
  have key : ∀ p, Lib.BuilderAt T e B b p bs W → Lib.BuilderAt T e B b p bs W' := by
    rintro p h'
    obtain ⟨hB, v, h1, h2, h3⟩ := h'
    exact ⟨hB, v, (hb.block b (lt_of_block h1)).trans h1, h2.kept (row := none) ⟨hb.os, hb.tape, hb.output, hb.size, fun i hi _ => hb.block i hi⟩ (by cases hv : v.ownBlock with | none => exact .inl rfl | some _ => exact .inr (by simp)), h3⟩
  exact h.elim (fun x => .inl (key _ x)) (fun x => .inr (key _ x))
theorem below_trans1 {w w1 w2 : World} (h : Below w.heap.size w w1) (k : Below (w.heap.size + 1) w1 w2) : Below w.heap.size w w2 := h.trans (k.mono (by omega))

theorem Tryd.lays166' : Go.Proofs.Lays.n166 Tryd.prog Tryd.lays105_ren := { mixed := Tryd.lays105.mixed, f166 := Tryd.lays105.f166, f240 := Tryd.lays105.f240, f276 := Tryd.lays105.f276, t0 := Tryd.lays105.t0, a0 := Tryd.lays105.a0, z0 := Tryd.lays105.z0, v0 := Tryd.lays105.v0, t3 := Tryd.lays105.t3, a3 := Tryd.lays105.a3, z3 := Tryd.lays105.z3, v3 := Tryd.lays105.v3, t4 := Tryd.lays105.t4, a4 := Tryd.lays105.a4, z4 := Tryd.lays105.z4, v4 := Tryd.lays105.v4, t9 := Tryd.lays105.t9, a9 := Tryd.lays105.a9, z9 := Tryd.lays105.z9, v9 := Tryd.lays105.v9, t20 := Tryd.lays105.t20, a20 := Tryd.lays105.a20, z20 := Tryd.lays105.z20, v20 := Tryd.lays105.v20, t37 := Tryd.lays105.t37, a37 := Tryd.lays105.a37, z37 := Tryd.lays105.z37, v37 := Tryd.lays105.v37, t70 := Tryd.lays105.t70, a70 := Tryd.lays105.a70, z70 := Tryd.lays105.z70, v70 := Tryd.lays105.v70, t72 := Tryd.lays105.t72, a72 := Tryd.lays105.a72, z72 := Tryd.lays105.z72, v72 := Tryd.lays105.v72, t75 := Tryd.lays105.t75, a75 := Tryd.lays105.a75, z75 := Tryd.lays105.z75, v75 := Tryd.lays105.v75, t164 := Tryd.lays105.t164, a164 := Tryd.lays105.a164, z164 := Tryd.lays105.z164, v164 := Tryd.lays105.v164 }
theorem wstr_any (B b : Nat) (bs : List Value) (s : List UInt8) (w : World) (h : Lib.IsBuilder 62 5 B b bs w) (hlen : bs.length + (ByteArray.mk s.toArray).size ≤ 140737488355328) (hBw : B ≤ w.heap.size) :
    Calls Tryd.prog 19 #[.pointer (some ⟨b, 0, none⟩), str s] w fun e w' => e = .returned (.tuple #[.int .i64 (ByteArray.mk s.toArray).size, .nilIface]) ∧ (Lib.BuilderAt 62 5 B b (.pointer (some ⟨b, 0, none⟩)) (bs ++ Lib.strCells ⟨s.toArray⟩) w' ∧ Below B w w') :=
  Any.Builder_WriteString Tryd.lays166' Tryd.Builder_Extra_105 B b bs ⟨s.toArray⟩ w h hlen hBw
def allLay (p q r s : PtrD) : Nat → Bool
  | 0 => true
  | 1 => layOk p
  | 2 => layOk p && layOk q
  | 3 => layOk p && layOk q && layOk r
  | _ => layOk p && layOk q && layOk r && layOk s
def itTo (p q r s : PtrD) : Nat → List UInt8
  | 0 => []
  | 1 => [] ++ ptrL p
  | 2 => [] ++ ptrL p ++ ptrL q
  | 3 => [] ++ ptrL p ++ ptrL q ++ ptrL r
  | _ => [] ++ ptrL p ++ ptrL q ++ ptrL r ++ ptrL s
def itL (p q r s : PtrD) : List UInt8 := if layOk p && layOk q && layOk r && layOk s then itTo p q r s 4 else []
theorem itTo_len (p q r s : PtrD) (k : Nat) (o1 : p.Ok) (o2 : q.Ok) (o3 : r.Ok) (o4 : s.Ok) (h : allLay p q r s k = true) : (itTo p q r s k).length ≤ 256 := by
  match k, h with
  | 0, _ => simp [itTo]
  | 1, h => simp only [allLay] at h; simp [itTo, ptrL_len h o1]
  | 2, h => simp only [allLay, Bool.and_eq_true] at h; simp [itTo, ptrL_len h.1 o1, ptrL_len h.2 o2]
  | 3, h => simp only [allLay, Bool.and_eq_true] at h; simp [itTo, ptrL_len h.1.1 o1, ptrL_len h.1.2 o2, ptrL_len h.2 o3]
  | k + 4, h => simp only [allLay, Bool.and_eq_true] at h; simp [itTo, ptrL_len h.1.1.1 o1, ptrL_len h.1.1.2 o2, ptrL_len h.1.2 o3, ptrL_len h.2 o4]
theorem ix_0 (p q r s : PtrD) (W : World) : (Instr.index 37 (.agg (ptrs4 p q r s)) (.int .i64 0)).run Tryd.prog W = .ok (.agg #[.int .i64 p.ag, .int .i64 p.aa, .int .i64 p.bg, .int .i64 p.ba, .bool p.two, .int .i64 p.size, .int .i64 p.level, .int .i64 p.birth, .int .u64 p.s0, .int .u64 p.s1, .int .u64 p.s2, .int .u64 p.s3]) W := by kernel_rfl
theorem ix_1 (p q r s : PtrD) (W : World) : (Instr.index 37 (.agg (ptrs4 p q r s)) (.int .i64 1)).run Tryd.prog W = .ok (.agg #[.int .i64 q.ag, .int .i64 q.aa, .int .i64 q.bg, .int .i64 q.ba, .bool q.two, .int .i64 q.size, .int .i64 q.level, .int .i64 q.birth, .int .u64 q.s0, .int .u64 q.s1, .int .u64 q.s2, .int .u64 q.s3]) W := by kernel_rfl
theorem ix_2 (p q r s : PtrD) (W : World) : (Instr.index 37 (.agg (ptrs4 p q r s)) (.int .i64 2)).run Tryd.prog W = .ok (.agg #[.int .i64 r.ag, .int .i64 r.aa, .int .i64 r.bg, .int .i64 r.ba, .bool r.two, .int .i64 r.size, .int .i64 r.level, .int .i64 r.birth, .int .u64 r.s0, .int .u64 r.s1, .int .u64 r.s2, .int .u64 r.s3]) W := by kernel_rfl
theorem ix_3 (p q r s : PtrD) (W : World) : (Instr.index 37 (.agg (ptrs4 p q r s)) (.int .i64 3)).run Tryd.prog W = .ok (.agg #[.int .i64 s.ag, .int .i64 s.aa, .int .i64 s.bg, .int .i64 s.ba, .bool s.two, .int .i64 s.size, .int .i64 s.level, .int .i64 s.birth, .int .u64 s.s0, .int .u64 s.s1, .int .u64 s.s2, .int .u64 s.s3]) W := by kernel_rfl
theorem ptrs_size4 (p q r s : PtrD) : (ptrs4 p q r s).size = 48 := by kernel_rfl

set_option maxRecDepth 100000 in
set_option maxHeartbeats 8000000 in
theorem iText_any (p q r s : PtrD) (w : World) (o1 : p.Ok) (o2 : q.Ok) (o3 : r.Ok) (o4 : s.Ok) :
    Calls Tryd.prog 10 #[.agg (ptrs4 p q r s)] w fun e w' => e = .returned (str (itL p q r s)) ∧ Below w.heap.size w w' := by
  have hi : (Tryd.prog.info? 37).map (·.size) = some (ptrs4 p q r s).size := by rw [ptrs_size4]; kernel_rfl
  have h0 := ix_0 p q r s
  have h1 := ix_1 p q r s
  have h2 := ix_2 p q r s
  have h3 := ix_3 p q r s
  obtain ⟨cs, hcs⟩ : ∃ cs, cs = ptrs4 p q r s := ⟨_, rfl⟩
  rw [← hcs] at hi h0 h1 h2 h3 ⊢
  clear hcs
  obtain ⟨w1, hw1⟩ : ∃ w1, w1 = ((w.alloc (.cells cs 43)).alloc (.cells #[.pointer none, .slice none 0 0] 62)) := ⟨_, rfl⟩
  have hd1 : Below w.heap.size w w1 := by rw [hw1]; exact ((Below.refl _ _).alloc (Nat.le_refl _) _).alloc (by simp) _
  have hs1 : w.heap.size + 2 ≤ w1.heap.size := by rw [hw1]; simp
  have hB1 : Blk w1 w.heap.size 43 cs := by rw [hw1]; exact (Blk.new _ _ _).alloc _
  have hI1 : Lib.IsBuilder 62 5 (w.heap.size + 1) (w.heap.size + 1) (Lib.byteCells []) w1 := .inl ⟨Nat.le_refl _, .slice none 0 0, by rw [hw1]; exact Blk.new2 w _ _ _, World.ownsRow_nil _ _ _ _, by simp [Value.ownBlock]⟩
  go_enter Tryd.func10, Tryd.ntmps10
  go_wp2_with ((with_reducible refine wpList_load_want ?qw 37 (.tmp 8) ?q2 w.heap.size ?q3 43 cs _ (by rw [← hw1]; exact hB1) Tryd.underlying37 rfl hi ?_); (case q2 => rfl); (case q3 => rfl); (case qw => rfl))
  rw [← hw1]
  clear hw1
  go_loopw [10] (fun t wr => ∃ k : Nat, k ≤ 4 ∧ t = .int .i64 k ∧ allLay p q r s k = true ∧ Lib.IsBuilder 62 5 (w.heap.size + 1) (w.heap.size + 1) (Lib.byteCells (itTo p q r s k)) wr ∧ Below w.heap.size w wr ∧ w.heap.size + 2 ≤ wr.heap.size) (fun t _ => 4 - (intOf t).toNat)
  case atStart => exact ⟨0, by omega, rfl, rfl, hI1, hd1, hs1⟩
  case round =>
    obtain ⟨k, hk, rfl, hA, hI, hd, hs⟩ := hrel
    have HA := Lib.hid hA
    have HI := Lib.hid hI
    clear hA hI1 hd1 hs1 hB1
    have hk4 : k = 0 ∨ k = 1 ∨ k = 2 ∨ k = 3 ∨ k = 4 := by omega
    rcases hk4 with rfl | rfl | rfl | rfl | rfl
    · clear h1 h2 h3 hI
      have HX := Lib.hid fun W => pbytes_any p W o1
      go_wp2_with fail
      cases hly : layOk p with
      | true =>
        have hPB : Hid (∀ W, Calls Tryd.prog 18 #[.agg #[.int .i64 p.ag, .int .i64 p.aa, .int .i64 p.bg, .int .i64 p.ba, .bool p.two, .int .i64 p.size, .int .i64 p.level, .int .i64 p.birth, .int .u64 p.s0, .int .u64 p.s1, .int .u64 p.s2, .int .u64 p.s3]] W fun e w' => e = .returned (.tuple #[str (ptrL p), .int .i64 0]) ∧ Below W.heap.size W w') := Lib.hid fun W => by
          have := HX.out W; rw [hly] at this; exact this
        have hpl := ptrL_len hly o1
        have HOK := Lib.hid (show allLay p q r s (0 + 1) = true by have h0 := HA.out; simp only [allLay, Nat.reduceAdd] at h0 ⊢; simp_all)
        have HTO := Lib.hid (show itTo p q r s (0 + 1) = itTo p q r s 0 ++ ptrL p from rfl)
        have hlt := itTo_len p q r s 0 o1 o2 o3 o4 HA.out
        clear HX hly
        generalize ptrL p = x at *
        generalize itTo p q r s 0 = y at *
        refine (hPB.out _).mono ?_
        rintro e w2 ⟨rfl, hb2⟩
        have hd2 := keep_below hb2 (keep_alloc hd _)
        have hI2 := (HI.out.keep ((Below.refl _ _).alloc (Nat.le_refl _) _)).keep hb2
        have hs2 : w.heap.size + 2 ≤ w2.heap.size := keep_size hb2 (by simp; omega)
        have HI2 := Lib.hid hI2
        clear hI2 hb2
        go_wp2_with fail
        refine (wstr_any (w.heap.size + 1) (w.heap.size + 1) _ x _ HI2.out (by rw [Lib.byteCells_length]; simp [ByteArray.size]; omega) (by omega)).mono ?_
        rintro e w3 ⟨rfl, hI3, hb3⟩
        have hd3 := below_trans1 hd2 hb3
        have hI4 : Lib.IsBuilder 62 5 (w.heap.size + 1) (w.heap.size + 1) (Lib.byteCells (y ++ x)) w3 := .inr (by
          have e : Lib.byteCells (y ++ x) = Lib.byteCells y ++ Lib.strCells ⟨x.toArray⟩ := by show Lib.byteCells (y ++ x) = Lib.byteCells y ++ Lib.byteCells x; simp [Lib.byteCells]
          rw [e]; exact hI3)
        have hs3 := Nat.le_trans hs2 hb3.size
        have HI4 := Lib.hid hI4
        clear hI3 hI4 hb3
        go_wp2_with fail
        go_roundw
        case rel => exact ⟨0 + 1, by omega, rfl, HOK.out, by rw [HTO.out]; exact HI4.out, hd3, hs3⟩
        case measure => simp [intOf]
      | false =>
        have hPB : Hid (∀ W, Calls Tryd.prog 18 #[.agg #[.int .i64 p.ag, .int .i64 p.aa, .int .i64 p.bg, .int .i64 p.ba, .bool p.two, .int .i64 p.size, .int .i64 p.level, .int .i64 p.birth, .int .u64 p.s0, .int .u64 p.s1, .int .u64 p.s2, .int .u64 p.s3]] W fun e w' => e = .returned (.tuple #[str [], .int .i64 1]) ∧ Below W.heap.size W w') := Lib.hid fun W => by
          have := HX.out W; rw [hly] at this; exact this
        have hv : Hid (itL p q r s = []) := by unfold Hid itL; rw [if_neg (by simp [hly])]
        clear HX hly
        refine (hPB.out _).mono ?_
        rintro e w2 ⟨rfl, hb2⟩
        have hd2 := keep_below hb2 (keep_alloc hd _)
        go_wp2_with fail
        go_ret
        exact ⟨ret_str hv.out.symm, hd2⟩
    · clear h0 h2 h3 hI
      have HX := Lib.hid fun W => pbytes_any q W o2
      go_wp2_with fail
      cases hly : layOk q with
      | true =>
        have hPB : Hid (∀ W, Calls Tryd.prog 18 #[.agg #[.int .i64 q.ag, .int .i64 q.aa, .int .i64 q.bg, .int .i64 q.ba, .bool q.two, .int .i64 q.size, .int .i64 q.level, .int .i64 q.birth, .int .u64 q.s0, .int .u64 q.s1, .int .u64 q.s2, .int .u64 q.s3]] W fun e w' => e = .returned (.tuple #[str (ptrL q), .int .i64 0]) ∧ Below W.heap.size W w') := Lib.hid fun W => by
          have := HX.out W; rw [hly] at this; exact this
        have hpl := ptrL_len hly o2
        have HOK := Lib.hid (show allLay p q r s (1 + 1) = true by have h0 := HA.out; simp only [allLay, Nat.reduceAdd] at h0 ⊢; simp_all)
        have HTO := Lib.hid (show itTo p q r s (1 + 1) = itTo p q r s 1 ++ ptrL q from rfl)
        have hlt := itTo_len p q r s 1 o1 o2 o3 o4 HA.out
        clear HX hly
        generalize ptrL q = x at *
        generalize itTo p q r s 1 = y at *
        refine (hPB.out _).mono ?_
        rintro e w2 ⟨rfl, hb2⟩
        have hd2 := keep_below hb2 (keep_alloc hd _)
        have hI2 := (HI.out.keep ((Below.refl _ _).alloc (Nat.le_refl _) _)).keep hb2
        have hs2 : w.heap.size + 2 ≤ w2.heap.size := keep_size hb2 (by simp; omega)
        have HI2 := Lib.hid hI2
        clear hI2 hb2
        go_wp2_with fail
        refine (wstr_any (w.heap.size + 1) (w.heap.size + 1) _ x _ HI2.out (by rw [Lib.byteCells_length]; simp [ByteArray.size]; omega) (by omega)).mono ?_
        rintro e w3 ⟨rfl, hI3, hb3⟩
        have hd3 := below_trans1 hd2 hb3
        have hI4 : Lib.IsBuilder 62 5 (w.heap.size + 1) (w.heap.size + 1) (Lib.byteCells (y ++ x)) w3 := .inr (by
          have e : Lib.byteCells (y ++ x) = Lib.byteCells y ++ Lib.strCells ⟨x.toArray⟩ := by show Lib.byteCells (y ++ x) = Lib.byteCells y ++ Lib.byteCells x; simp [Lib.byteCells]
          rw [e]; exact hI3)
        have hs3 := Nat.le_trans hs2 hb3.size
        have HI4 := Lib.hid hI4
        clear hI3 hI4 hb3
        go_wp2_with fail
        go_roundw
        case rel => exact ⟨1 + 1, by omega, rfl, HOK.out, by rw [HTO.out]; exact HI4.out, hd3, hs3⟩
        case measure => simp [intOf]
      | false =>
        have hPB : Hid (∀ W, Calls Tryd.prog 18 #[.agg #[.int .i64 q.ag, .int .i64 q.aa, .int .i64 q.bg, .int .i64 q.ba, .bool q.two, .int .i64 q.size, .int .i64 q.level, .int .i64 q.birth, .int .u64 q.s0, .int .u64 q.s1, .int .u64 q.s2, .int .u64 q.s3]] W fun e w' => e = .returned (.tuple #[str [], .int .i64 1]) ∧ Below W.heap.size W w') := Lib.hid fun W => by
          have := HX.out W; rw [hly] at this; exact this
        have hv : Hid (itL p q r s = []) := by unfold Hid itL; rw [if_neg (by simp [hly])]
        clear HX hly
        refine (hPB.out _).mono ?_
        rintro e w2 ⟨rfl, hb2⟩
        have hd2 := keep_below hb2 (keep_alloc hd _)
        go_wp2_with fail
        go_ret
        exact ⟨ret_str hv.out.symm, hd2⟩
    · clear h0 h1 h3 hI
      have HX := Lib.hid fun W => pbytes_any r W o3
      go_wp2_with fail
      cases hly : layOk r with
      | true =>
        have hPB : Hid (∀ W, Calls Tryd.prog 18 #[.agg #[.int .i64 r.ag, .int .i64 r.aa, .int .i64 r.bg, .int .i64 r.ba, .bool r.two, .int .i64 r.size, .int .i64 r.level, .int .i64 r.birth, .int .u64 r.s0, .int .u64 r.s1, .int .u64 r.s2, .int .u64 r.s3]] W fun e w' => e = .returned (.tuple #[str (ptrL r), .int .i64 0]) ∧ Below W.heap.size W w') := Lib.hid fun W => by
          have := HX.out W; rw [hly] at this; exact this
        have hpl := ptrL_len hly o3
        have HOK := Lib.hid (show allLay p q r s (2 + 1) = true by have h0 := HA.out; simp only [allLay, Nat.reduceAdd] at h0 ⊢; simp_all)
        have HTO := Lib.hid (show itTo p q r s (2 + 1) = itTo p q r s 2 ++ ptrL r from rfl)
        have hlt := itTo_len p q r s 2 o1 o2 o3 o4 HA.out
        clear HX hly
        generalize ptrL r = x at *
        generalize itTo p q r s 2 = y at *
        refine (hPB.out _).mono ?_
        rintro e w2 ⟨rfl, hb2⟩
        have hd2 := keep_below hb2 (keep_alloc hd _)
        have hI2 := (HI.out.keep ((Below.refl _ _).alloc (Nat.le_refl _) _)).keep hb2
        have hs2 : w.heap.size + 2 ≤ w2.heap.size := keep_size hb2 (by simp; omega)
        have HI2 := Lib.hid hI2
        clear hI2 hb2
        go_wp2_with fail
        refine (wstr_any (w.heap.size + 1) (w.heap.size + 1) _ x _ HI2.out (by rw [Lib.byteCells_length]; simp [ByteArray.size]; omega) (by omega)).mono ?_
        rintro e w3 ⟨rfl, hI3, hb3⟩
        have hd3 := below_trans1 hd2 hb3
        have hI4 : Lib.IsBuilder 62 5 (w.heap.size + 1) (w.heap.size + 1) (Lib.byteCells (y ++ x)) w3 := .inr (by
          have e : Lib.byteCells (y ++ x) = Lib.byteCells y ++ Lib.strCells ⟨x.toArray⟩ := by show Lib.byteCells (y ++ x) = Lib.byteCells y ++ Lib.byteCells x; simp [Lib.byteCells]
          rw [e]; exact hI3)
        have hs3 := Nat.le_trans hs2 hb3.size
        have HI4 := Lib.hid hI4
        clear hI3 hI4 hb3
        go_wp2_with fail
        go_roundw
        case rel => exact ⟨2 + 1, by omega, rfl, HOK.out, by rw [HTO.out]; exact HI4.out, hd3, hs3⟩
        case measure => simp [intOf]
      | false =>
        have hPB : Hid (∀ W, Calls Tryd.prog 18 #[.agg #[.int .i64 r.ag, .int .i64 r.aa, .int .i64 r.bg, .int .i64 r.ba, .bool r.two, .int .i64 r.size, .int .i64 r.level, .int .i64 r.birth, .int .u64 r.s0, .int .u64 r.s1, .int .u64 r.s2, .int .u64 r.s3]] W fun e w' => e = .returned (.tuple #[str [], .int .i64 1]) ∧ Below W.heap.size W w') := Lib.hid fun W => by
          have := HX.out W; rw [hly] at this; exact this
        have hv : Hid (itL p q r s = []) := by unfold Hid itL; rw [if_neg (by simp [hly])]
        clear HX hly
        refine (hPB.out _).mono ?_
        rintro e w2 ⟨rfl, hb2⟩
        have hd2 := keep_below hb2 (keep_alloc hd _)
        go_wp2_with fail
        go_ret
        exact ⟨ret_str hv.out.symm, hd2⟩
    · clear h0 h1 h2 hI
      have HX := Lib.hid fun W => pbytes_any s W o4
      go_wp2_with fail
      cases hly : layOk s with
      | true =>
        have hPB : Hid (∀ W, Calls Tryd.prog 18 #[.agg #[.int .i64 s.ag, .int .i64 s.aa, .int .i64 s.bg, .int .i64 s.ba, .bool s.two, .int .i64 s.size, .int .i64 s.level, .int .i64 s.birth, .int .u64 s.s0, .int .u64 s.s1, .int .u64 s.s2, .int .u64 s.s3]] W fun e w' => e = .returned (.tuple #[str (ptrL s), .int .i64 0]) ∧ Below W.heap.size W w') := Lib.hid fun W => by
          have := HX.out W; rw [hly] at this; exact this
        have hpl := ptrL_len hly o4
        have HOK := Lib.hid (show allLay p q r s (3 + 1) = true by have h0 := HA.out; simp only [allLay, Nat.reduceAdd] at h0 ⊢; simp_all)
        have HTO := Lib.hid (show itTo p q r s (3 + 1) = itTo p q r s 3 ++ ptrL s from rfl)
        have hlt := itTo_len p q r s 3 o1 o2 o3 o4 HA.out
        clear HX hly
        generalize ptrL s = x at *
        generalize itTo p q r s 3 = y at *
        refine (hPB.out _).mono ?_
        rintro e w2 ⟨rfl, hb2⟩
        have hd2 := keep_below hb2 (keep_alloc hd _)
        have hI2 := (HI.out.keep ((Below.refl _ _).alloc (Nat.le_refl _) _)).keep hb2
        have hs2 : w.heap.size + 2 ≤ w2.heap.size := keep_size hb2 (by simp; omega)
        have HI2 := Lib.hid hI2
        clear hI2 hb2
        go_wp2_with fail
        refine (wstr_any (w.heap.size + 1) (w.heap.size + 1) _ x _ HI2.out (by rw [Lib.byteCells_length]; simp [ByteArray.size]; omega) (by omega)).mono ?_
        rintro e w3 ⟨rfl, hI3, hb3⟩
        have hd3 := below_trans1 hd2 hb3
        have hI4 : Lib.IsBuilder 62 5 (w.heap.size + 1) (w.heap.size + 1) (Lib.byteCells (y ++ x)) w3 := .inr (by
          have e : Lib.byteCells (y ++ x) = Lib.byteCells y ++ Lib.strCells ⟨x.toArray⟩ := by show Lib.byteCells (y ++ x) = Lib.byteCells y ++ Lib.byteCells x; simp [Lib.byteCells]
          rw [e]; exact hI3)
        have hs3 := Nat.le_trans hs2 hb3.size
        have HI4 := Lib.hid hI4
        clear hI3 hI4 hb3
        go_wp2_with fail
        go_roundw
        case rel => exact ⟨3 + 1, by omega, rfl, HOK.out, by rw [HTO.out]; exact HI4.out, hd3, hs3⟩
        case measure => simp [intOf]
      | false =>
        have hPB : Hid (∀ W, Calls Tryd.prog 18 #[.agg #[.int .i64 s.ag, .int .i64 s.aa, .int .i64 s.bg, .int .i64 s.ba, .bool s.two, .int .i64 s.size, .int .i64 s.level, .int .i64 s.birth, .int .u64 s.s0, .int .u64 s.s1, .int .u64 s.s2, .int .u64 s.s3]] W fun e w' => e = .returned (.tuple #[str [], .int .i64 1]) ∧ Below W.heap.size W w') := Lib.hid fun W => by
          have := HX.out W; rw [hly] at this; exact this
        have hv : Hid (itL p q r s = []) := by unfold Hid itL; rw [if_neg (by simp [hly])]
        clear HX hly
        refine (hPB.out _).mono ?_
        rintro e w2 ⟨rfl, hb2⟩
        have hd2 := keep_below hb2 (keep_alloc hd _)
        go_wp2_with fail
        go_ret
        exact ⟨ret_str hv.out.symm, hd2⟩
    · have hv : Hid (itL p q r s = itTo p q r s 4) := by unfold Hid itL; rw [if_pos (by have := HA.out; simpa [allLay] using this)]
      clear hI
      go_wp2_with fail
      refine (Tryd.Builder_String_any (w.heap.size + 1) (w.heap.size + 1) _ _ HI.out (by omega)).mono ?_
      rintro e w2 ⟨rfl, hb2⟩
      go_wp2_with fail
      go_ret
      exact ⟨ret_str hv.out.symm, below_trans1 hd hb2⟩
end Go.Proofs.YtkmmehhddagijaaDoor
