/-
  What pointers' functions call: cmp.Compare, cmp.Or, ptr.within, ptr.small, fletch.Bytes.
  Contracts of package ptr: None, Less, Places, Bytes.
  An argument that is a pointer, opened.
  Arguments that are four pointers, or a node, opened.
  An argument that is an uberblock, opened.
  Contracts of package node: Level, Data.Text; the document's examples.
  == on places, sums and pointers.
  Contracts of package ptr: None, Bytes.
  The walks of LeLays, LeUnlike, LePads.
  The walk of LeUnlike.
-/
import Derived.Test.YtlpbbjjibnbooaaGreatDoorJ01
import Derived.StillTailTactics
import Derived.Laws.IdiomArrays
import Derived.Test.YtlpbbjjibnbooaaGreatDoorRows
namespace Go.Proofs.YtlpbbjjibnbooaaGreatDoor
open Go.RowKit
set_option linter.unusedVariables false

/-- From b, off on lie these integers. -/
def IntsAt (w : World) (b off : Nat) (l : List Int) : Prop := b < w.heap.size ∧ ∀ (i : Nat) (x : Int), l[i]? = some x → w.cell? ⟨b, off + i, none⟩ = some (.int .i64 x)
theorem IntsAt.below {w w' : World} {b off B : Nat} {l : List Int} (h : IntsAt w b off l) (hb : Below B w w') (hB : w.heap.size ≤ B) : IntsAt w' b off l := by
  obtain ⟨h1, h2⟩ := h
  exact ⟨Nat.lt_of_lt_of_le h1 hb.size, fun i x hx => (hb.cell (p := ⟨b, off + i, none⟩) (by show b < B; omega)).trans (h2 i x hx)⟩
theorem IntsAt.new (w : World) (l : List Int) (t : TypeId) : IntsAt (w.alloc (.cells ((l.map (Value.int .i64)).toArray) t)) w.heap.size 0 l := by
  refine ⟨by simp, fun i x hx => ?_⟩
  exact cell_new rfl (by simp [hx])

def withinL (most : Int) (l : List Int) : Bool := l.all fun x => decide (0 ≤ x) && decide (x ≤ most)
theorem within_any (most : Int) (b n c : Nat) (l : List Int) (w : World) (hl : l.length = n) (hn : n ≤ 100) (h : IntsAt w b 0 l) :
    Calls Tryz.prog 95 #[.int .i64 most, .slice (some ⟨b, 0, none⟩) n c] w fun e w' => e = .returned (.bool (withinL most l)) ∧ ∃ q, w' = w.drewN q := by
  have H := Lib.hid h
  have HL := Lib.hid hl
  clear h hl
  go_enter Tryz.func95, Tryz.ntmps95
  go_wp2
  go_loopw [9] (fun t wr => ∃ k : Nat, k ≤ n ∧ t = .int .i64 k ∧ (∀ j x, j < k → l[j]? = some x → 0 ≤ x ∧ x ≤ most) ∧ ∃ q, wr = w.drewN q) (fun t _ => n - (RowKit.intOf t).toNat)
  case atStart => exact ⟨0, Nat.zero_le _, rfl, fun j x hj => absurd hj (by omega), 0, rfl⟩
  case round =>
    obtain ⟨k, hk, rfl, hz, q, rfl⟩ := hrel
    have HZ := Lib.hid hz
    clear hz
    by_cases hlt : k < n
    · obtain ⟨x, hx⟩ : ∃ x, l[k]? = some x := ⟨_, List.getElem?_eq_getElem (by have := HL.out; omega)⟩
      have hc : w.cell? ⟨b, k, none⟩ = some (.int .i64 x) := by have := H.out.2 k x hx; rwa [Nat.zero_add] at this
      have HX := Lib.hid hx
      have hk0 : (0 : Int) ≤ k := by omega
      have hk1 : (k : Int) < n := by omega
      clear hx
      by_cases h0 : 0 ≤ x ∧ x ≤ most
      · obtain ⟨g1, g2⟩ := h0
        go_wp2_with fail
        go_roundw
        case rel =>
          refine ⟨k + 1, by omega, by go_num, fun j y hj hy => ?_, q, rfl⟩
          rcases Nat.lt_or_ge j k with h | h
          · exact HZ.out j y h hy
          · obtain rfl : j = k := by omega
            rw [HX.out] at hy
            injection hy with hy
            rw [← hy]; exact ⟨g1, g2⟩
        case measure => simp [RowKit.intOf]; omega
      · have HV : Hid (withinL most l = false) := by
          unfold Hid withinL
          rw [List.all_eq_false]
          exact ⟨x, List.mem_of_getElem? HX.out, by simp; omega⟩
        have h1 : x < 0 ∨ most < x := by omega
        clear h0
        rcases h1 with h1 | h1
        all_goals
          go_wp2_with fail
          all_goals go_ret
          all_goals exact ⟨ret_bool HV.out.symm, q, rfl⟩
    · have HV : Hid (withinL most l = true) := by
        unfold Hid withinL
        rw [List.all_eq_true]
        intro x hx
        obtain ⟨j, hj⟩ := List.mem_iff_getElem?.1 hx
        have := HZ.out j x (by have := (List.getElem?_eq_some_iff.1 hj).1; have := HL.out; omega) hj
        simp [this]
      go_wp2_with fail
      go_ret
      exact ⟨ret_bool HV.out.symm, q, rfl⟩

def smallL (l : List Int) : List UInt8 := l.flatMap u32L
theorem u32L_len (n : Int) : (u32L n).length ≤ 4 := by unfold u32L; split <;> simp [layL_len]
theorem smallL_step {l : List Int} {k : Nat} {x : Int} (h : l[k]? = some x) : smallL (l.take (k + 1)) = smallL (l.take k) ++ u32L x := by
  unfold smallL; rw [List.take_add_one, h]; simp
theorem smallL_len (l : List Int) : (smallL l).length ≤ 4 * l.length := by
  unfold smallL
  induction l with
  | nil => simp
  | cons x r ih => rw [List.flatMap_cons, List.length_append, List.length_cons]; have := u32L_len x; omega
theorem small_any (b n c : Nat) (l : List Int) (w : World) (hl : l.length = n) (hn : n ≤ 100) (h : IntsAt w b 0 l) :
    Calls Tryz.prog 96 #[.slice (some ⟨b, 0, none⟩) n c] w fun e w' => e = .returned (str (smallL l)) ∧ Below w.heap.size w w' := by
  have H := Lib.hid h
  have HL := Lib.hid hl
  clear h hl
  go_enter Tryz.func96, Tryz.ntmps96
  go_wp2
  go_loopw [3, 8] (fun s t wr => ∃ k : Nat, k ≤ n ∧ t = .int .i64 k ∧ s = str (smallL (l.take k)) ∧ Below w.heap.size w wr) (fun _ t _ => n - (RowKit.intOf t).toNat)
  case atStart => exact ⟨0, Nat.zero_le _, rfl, rfl, Below.refl _ _⟩
  case round =>
    obtain ⟨k, hk, rfl, rfl, hb⟩ := hrel
    by_cases hlt : k < n
    · obtain ⟨x, hx⟩ : ∃ x, l[k]? = some x := ⟨_, List.getElem?_eq_getElem (by have := HL.out; omega)⟩
      have hc : wr.cell? ⟨b, k, none⟩ = some (.int .i64 x) := by have := (H.out.below hb (Nat.le_refl _)).2 k x hx; rwa [Nat.zero_add] at this
      have HS := Lib.hid (smallL_step hx)
      have hk0 : (0 : Int) ≤ k := by omega
      have hk1 : (k : Int) < n := by omega
      have hsl : (smallL (l.take k)).length ≤ 400 := by
        have := smallL_len (l.take k)
        have h2 : (l.take k).length ≤ k := List.length_take_le _ _
        omega
      have hul := u32L_len x
      clear hx
      generalize smallL (l.take k) = s at *
      go_wp2_with fail
      refine (u32_any x _).mono ?_
      rintro e w2 ⟨rfl, hb2⟩
      generalize u32L x = u at *
      go_wp2_with fail
      go_roundw
      case rel => exact ⟨k + 1, by omega, by go_num, by rw [HS.out]; exact congrArg Value.string (ByteArray.mk_append_mk s u), hb.trans (hb2.mono hb.size)⟩
      case measure => simp [RowKit.intOf]; omega
    · have HV : Hid (l.take k = l) := Lib.hid (List.take_of_length_le (by have := HL.out; omega))
      rw [HV.out]
      go_wp2_with fail
      go_ret
      exact ⟨rfl, hb⟩

def sumL (s : List Nat) : List UInt8 := s.flatMap fun x => layL x 8
theorem sumL_len (s : List Nat) : (sumL s).length = 8 * s.length := by
  unfold sumL
  induction s with
  | nil => rfl
  | cons x r ih => rw [List.flatMap_cons, List.length_append, List.length_cons, ih, layL_len]; omega
theorem fbytes_any (s0 s1 s2 s3 : Nat) (w : World) (h0 : s0 < 18446744073709551616) (h1 : s1 < 18446744073709551616) (h2 : s2 < 18446744073709551616) (h3 : s3 < 18446744073709551616) :
    Calls Tryz.prog 27 #[.agg #[.int .u64 s0, .int .u64 s1, .int .u64 s2, .int .u64 s3]] w fun e w' => e = .returned (str (sumL [s0, s1, s2, s3])) ∧ Below w.heap.size w w' := by
  have H0 := Lib.hid fun W => u64_any s0 W h0
  have H1 := Lib.hid fun W => u64_any s1 W h1
  have H2 := Lib.hid fun W => u64_any s2 W h2
  have H3 := Lib.hid fun W => u64_any s3 W h3
  have i0 : ∀ w, (Instr.index 29 (.agg #[.int .u64 s0, .int .u64 s1, .int .u64 s2, .int .u64 s3]) (.int .i64 0)).run Tryz.prog w = .ok (.int .u64 s0) w := fun _ => by kernel_rfl
  have i1 : ∀ w, (Instr.index 29 (.agg #[.int .u64 s0, .int .u64 s1, .int .u64 s2, .int .u64 s3]) (.int .i64 1)).run Tryz.prog w = .ok (.int .u64 s1) w := fun _ => by kernel_rfl
  have i2 : ∀ w, (Instr.index 29 (.agg #[.int .u64 s0, .int .u64 s1, .int .u64 s2, .int .u64 s3]) (.int .i64 2)).run Tryz.prog w = .ok (.int .u64 s2) w := fun _ => by kernel_rfl
  have i3 : ∀ w, (Instr.index 29 (.agg #[.int .u64 s0, .int .u64 s1, .int .u64 s2, .int .u64 s3]) (.int .i64 3)).run Tryz.prog w = .ok (.int .u64 s3) w := fun _ => by kernel_rfl
  clear h0 h1 h2 h3
  go_enter Tryz.func27, Tryz.ntmps27
  go_wp2_with fail
  go_loopw [3, 7] (fun s t wr => ∃ k : Nat, k ≤ 4 ∧ t = .int .i64 k ∧ s = str (sumL ([s0, s1, s2, s3].take k)) ∧ Below w.heap.size w wr) (fun _ t _ => 4 - (RowKit.intOf t).toNat)
  case atStart => exact ⟨0, by omega, rfl, rfl, (Below.refl _ _).alloc (Nat.le_refl _) _⟩
  case round =>
    obtain ⟨k, hk, rfl, rfl, hb⟩ := hrel
    have hk4 : k = 0 ∨ k = 1 ∨ k = 2 ∨ k = 3 ∨ k = 4 := by omega
    have hlen : (sumL ([s0, s1, s2, s3].take k)).length ≤ 32 := by rw [sumL_len, List.length_take]; simp; omega
    rcases hk4 with rfl | rfl | rfl | rfl | rfl
    · have HS : Hid (sumL ([s0, s1, s2, s3].take (0 + 1)) = sumL ([s0, s1, s2, s3].take 0) ++ layL s0 8) := by simp [Hid, sumL]
      generalize sumL ([s0, s1, s2, s3].take 0) = s at *
      go_wp2_with fail
      refine (H0.out _).mono ?_
      rintro e w2 ⟨rfl, hb2⟩
      have hll : (layL s0 8).length ≤ 8 := by rw [layL_len]; exact Nat.le_refl _
      generalize layL s0 8 = u at *
      go_wp2_with fail
      go_roundw
      case rel => exact ⟨0 + 1, by omega, rfl, by rw [HS.out]; exact congrArg Value.string (ByteArray.mk_append_mk s u), hb.trans (hb2.mono hb.size)⟩
      case measure => simp [RowKit.intOf]
    · have HS : Hid (sumL ([s0, s1, s2, s3].take (1 + 1)) = sumL ([s0, s1, s2, s3].take 1) ++ layL s1 8) := by simp [Hid, sumL]
      generalize sumL ([s0, s1, s2, s3].take 1) = s at *
      go_wp2_with fail
      refine (H1.out _).mono ?_
      rintro e w2 ⟨rfl, hb2⟩
      have hll : (layL s1 8).length ≤ 8 := by rw [layL_len]; exact Nat.le_refl _
      generalize layL s1 8 = u at *
      go_wp2_with fail
      go_roundw
      case rel => exact ⟨1 + 1, by omega, rfl, by rw [HS.out]; exact congrArg Value.string (ByteArray.mk_append_mk s u), hb.trans (hb2.mono hb.size)⟩
      case measure => simp [RowKit.intOf]
    · have HS : Hid (sumL ([s0, s1, s2, s3].take (2 + 1)) = sumL ([s0, s1, s2, s3].take 2) ++ layL s2 8) := by simp [Hid, sumL]
      generalize sumL ([s0, s1, s2, s3].take 2) = s at *
      go_wp2_with fail
      refine (H2.out _).mono ?_
      rintro e w2 ⟨rfl, hb2⟩
      have hll : (layL s2 8).length ≤ 8 := by rw [layL_len]; exact Nat.le_refl _
      generalize layL s2 8 = u at *
      go_wp2_with fail
      go_roundw
      case rel => exact ⟨2 + 1, by omega, rfl, by rw [HS.out]; exact congrArg Value.string (ByteArray.mk_append_mk s u), hb.trans (hb2.mono hb.size)⟩
      case measure => simp [RowKit.intOf]
    · have HS : Hid (sumL ([s0, s1, s2, s3].take (3 + 1)) = sumL ([s0, s1, s2, s3].take 3) ++ layL s3 8) := by simp [Hid, sumL]
      generalize sumL ([s0, s1, s2, s3].take 3) = s at *
      go_wp2_with fail
      refine (H3.out _).mono ?_
      rintro e w2 ⟨rfl, hb2⟩
      have hll : (layL s3 8).length ≤ 8 := by rw [layL_len]; exact Nat.le_refl _
      generalize layL s3 8 = u at *
      go_wp2_with fail
      go_roundw
      case rel => exact ⟨3 + 1, by omega, rfl, by rw [HS.out]; exact congrArg Value.string (ByteArray.mk_append_mk s u), hb.trans (hb2.mono hb.size)⟩
      case measure => simp [RowKit.intOf]
    · go_wp2_with fail
      go_ret
      exact ⟨rfl, hb⟩
end Go.Proofs.YtlpbbjjibnbooaaGreatDoor

namespace Go.Proofs.YtlpbbjjibnbooaaGreatDoor
open Go.RowKit
set_option linter.unusedVariables false

/-- A pointer's numbers. -/
structure PtrD where
  ag : Int
  aa : Int
  bg : Int
  ba : Int
  two : Bool
  size : Int
  level : Int
  birth : Int
  s0 : Nat
  s1 : Nat
  s2 : Nat
  s3 : Nat
deriving DecidableEq

def PtrD.cells (p : PtrD) : Array Value := #[.int .i64 p.ag, .int .i64 p.aa, .int .i64 p.bg, .int .i64 p.ba, .bool p.two, .int .i64 p.size, .int .i64 p.level, .int .i64 p.birth, .int .u64 p.s0, .int .u64 p.s1, .int .u64 p.s2, .int .u64 p.s3]
def PtrD.Ok (p : PtrD) : Prop := p.s0 < 18446744073709551616 ∧ p.s1 < 18446744073709551616 ∧ p.s2 < 18446744073709551616 ∧ p.s3 < 18446744073709551616 ∧
  -9223372036854775808 ≤ p.size ∧ p.size ≤ 9223372036854775807 ∧ -9223372036854775808 ≤ p.level ∧ p.level ≤ 9223372036854775807 ∧ -9223372036854775808 ≤ p.birth ∧ p.birth ≤ 9223372036854775807

/-- p lies at block b from offset o on. -/
def PtrAt (w : World) (b o : Nat) (p : PtrD) : Prop :=
  w.cell? ⟨b, o, none⟩ = some (.int .i64 p.ag) ∧ w.cell? ⟨b, o + 1, none⟩ = some (.int .i64 p.aa) ∧ w.cell? ⟨b, o + 2, none⟩ = some (.int .i64 p.bg) ∧ w.cell? ⟨b, o + 3, none⟩ = some (.int .i64 p.ba) ∧
  w.cell? ⟨b, o + 4, none⟩ = some (.bool p.two) ∧ w.cell? ⟨b, o + 5, none⟩ = some (.int .i64 p.size) ∧ w.cell? ⟨b, o + 6, none⟩ = some (.int .i64 p.level) ∧ w.cell? ⟨b, o + 7, none⟩ = some (.int .i64 p.birth) ∧
  w.cell? ⟨b, o + 8, none⟩ = some (.int .u64 p.s0) ∧ w.cell? ⟨b, o + 9, none⟩ = some (.int .u64 p.s1) ∧ w.cell? ⟨b, o + 10, none⟩ = some (.int .u64 p.s2) ∧ w.cell? ⟨b, o + 11, none⟩ = some (.int .u64 p.s3)
theorem PtrAt.keep {w w' : World} {b o : Nat} {p : PtrD} (h : PtrAt w b o p) (hb : Below w.heap.size w w') (hlt : b < w.heap.size) : PtrAt w' b o p := by
  obtain ⟨h0, h1, h2, h3, h4, h5, h6, h7, h8, h9, ha, hc⟩ := h
  exact ⟨keep_cell hb h0 hlt, keep_cell hb h1 hlt, keep_cell hb h2 hlt, keep_cell hb h3 hlt, keep_cell hb h4 hlt, keep_cell hb h5 hlt, keep_cell hb h6 hlt, keep_cell hb h7 hlt, keep_cell hb h8 hlt, keep_cell hb h9 hlt, keep_cell hb ha hlt, keep_cell hb hc hlt⟩
theorem PtrAt.new (w : World) (p : PtrD) (t : TypeId) : PtrAt (w.alloc (.cells p.cells t)) w.heap.size 0 p :=
  ⟨cell_new rfl rfl, cell_new rfl rfl, cell_new rfl rfl, cell_new rfl rfl, cell_new rfl rfl, cell_new rfl rfl, cell_new rfl rfl, cell_new rfl rfl, cell_new rfl rfl, cell_new rfl rfl, cell_new rfl rfl, cell_new rfl rfl⟩

end Go.Proofs.YtlpbbjjibnbooaaGreatDoor

namespace Go.Proofs.YtlpbbjjibnbooaaGreatDoor
open Go.ChangeShapes Go.WideShapes Go.ChangeAt Go.RowKit Go.Deep Go.Joins
set_option linter.unusedVariables false

section
variable {H : Type} {enc : TypeId × Value → H} {w : World} {base : Nat} {spare : Nat → Bool} {held : Bool}
theorem trod_place {n : Nat} {u v : Value} {x : DataW H × List MemPlace} (h : DataW.trod enc Tryz.prog w base spare held n 26 [u, v] = some x) : ∃ a b : Int, u = .int .i64 a ∧ v = .int .i64 b := by
  obtain ⟨xs, m, _, _, _, hlen, hg⟩ := DataW.trod_struct Tryz.underlying26 h
  match xs, hlen with
  | [y0, y1], _ =>
    have k : Tryz.prog.cellsOf 3 = 1 := by kernel_rfl
    have g0 : DataW.trod enc Tryz.prog w base spare held m 3 [u] = some y0 := by have t : DataW.trod enc Tryz.prog w base spare held m 3 (([u, v].drop 0).take (Tryz.prog.cellsOf 3)) = [y0, y1][0]? := hg 0 _ rfl; rw [k] at t; exact t
    have g1 : DataW.trod enc Tryz.prog w base spare held m 3 [v] = some y1 := by have t : DataW.trod enc Tryz.prog w base spare held m 3 (([u, v].drop 1).take (Tryz.prog.cellsOf 3)) = [y0, y1][1]? := hg 1 _ rfl; rw [k] at t; exact t
    obtain ⟨a, e0, _, _⟩ := DataW.trod_int Tryz.underlying3 g0
    obtain ⟨b, e1, _, _⟩ := DataW.trod_int Tryz.underlying3 g1
    simp at e0 e1
    exact ⟨a, b, e0, e1⟩

theorem open_ptrs {n : Nat} {cs : List Value} {x : DataW H × List MemPlace} (h : DataW.trod enc Tryz.prog w base spare held n 31 cs = some x) (hlen : cs.length = 12) :
    ∃ p : PtrD, cs = p.cells.toList ∧ p.Ok := by
  match cs, hlen with
  | [c0, c1, c2, c3, c4, c5, c6, c7, c8, c9, c10, c11], _ =>
    obtain ⟨xs, m, _, _, _, hl, hg⟩ := DataW.trod_struct Tryz.underlying31 h
    have kp : Tryz.prog.cellsOf 26 = 2 := by kernel_rfl
    have ki : Tryz.prog.cellsOf 3 = 1 := by kernel_rfl
    have kb : Tryz.prog.cellsOf 4 = 1 := by kernel_rfl
    have ks : Tryz.prog.cellsOf 29 = 4 := by kernel_rfl
    have ku : Tryz.prog.cellsOf 27 = 1 := by kernel_rfl
    match xs, hl with
    | [y0, y1, y2, y3, y4, y5, y6], _ =>
      have g0 : DataW.trod enc Tryz.prog w base spare held m 26 [c0, c1] = some y0 := by have t : DataW.trod enc Tryz.prog w base spare held m 26 (([c0, c1, c2, c3, c4, c5, c6, c7, c8, c9, c10, c11].drop 0).take (Tryz.prog.cellsOf 26)) = [y0, y1, y2, y3, y4, y5, y6][0]? := hg 0 _ rfl; rw [kp] at t; exact t
      have g1 : DataW.trod enc Tryz.prog w base spare held m 26 [c2, c3] = some y1 := by have t : DataW.trod enc Tryz.prog w base spare held m 26 (([c0, c1, c2, c3, c4, c5, c6, c7, c8, c9, c10, c11].drop 2).take (Tryz.prog.cellsOf 26)) = [y0, y1, y2, y3, y4, y5, y6][1]? := hg 1 _ rfl; rw [kp] at t; exact t
      have g2 : DataW.trod enc Tryz.prog w base spare held m 4 [c4] = some y2 := by have t : DataW.trod enc Tryz.prog w base spare held m 4 (([c0, c1, c2, c3, c4, c5, c6, c7, c8, c9, c10, c11].drop 4).take (Tryz.prog.cellsOf 4)) = [y0, y1, y2, y3, y4, y5, y6][2]? := hg 2 _ rfl; rw [kb] at t; exact t
      have g3 : DataW.trod enc Tryz.prog w base spare held m 3 [c5] = some y3 := by have t : DataW.trod enc Tryz.prog w base spare held m 3 (([c0, c1, c2, c3, c4, c5, c6, c7, c8, c9, c10, c11].drop 5).take (Tryz.prog.cellsOf 3)) = [y0, y1, y2, y3, y4, y5, y6][3]? := hg 3 _ rfl; rw [ki] at t; exact t
      have g4 : DataW.trod enc Tryz.prog w base spare held m 3 [c6] = some y4 := by have t : DataW.trod enc Tryz.prog w base spare held m 3 (([c0, c1, c2, c3, c4, c5, c6, c7, c8, c9, c10, c11].drop 6).take (Tryz.prog.cellsOf 3)) = [y0, y1, y2, y3, y4, y5, y6][4]? := hg 4 _ rfl; rw [ki] at t; exact t
      have g5 : DataW.trod enc Tryz.prog w base spare held m 3 [c7] = some y5 := by have t : DataW.trod enc Tryz.prog w base spare held m 3 (([c0, c1, c2, c3, c4, c5, c6, c7, c8, c9, c10, c11].drop 7).take (Tryz.prog.cellsOf 3)) = [y0, y1, y2, y3, y4, y5, y6][5]? := hg 5 _ rfl; rw [ki] at t; exact t
      have g6 : DataW.trod enc Tryz.prog w base spare held m 29 [c8, c9, c10, c11] = some y6 := by have t : DataW.trod enc Tryz.prog w base spare held m 29 (([c0, c1, c2, c3, c4, c5, c6, c7, c8, c9, c10, c11].drop 8).take (Tryz.prog.cellsOf 29)) = [y0, y1, y2, y3, y4, y5, y6][6]? := hg 6 _ rfl; rw [ks] at t; exact t
      obtain ⟨ag, aa, rfl, rfl⟩ := trod_place g0
      obtain ⟨bg, ba, rfl, rfl⟩ := trod_place g1
      obtain ⟨two, e2, _⟩ := DataW.trod_bool Tryz.underlying4 g2
      obtain ⟨size, e3, _, w3⟩ := DataW.trod_int Tryz.underlying3 g3
      obtain ⟨level, e4, _, w4⟩ := DataW.trod_int Tryz.underlying3 g4
      obtain ⟨birth, e5, _, w5⟩ := DataW.trod_int Tryz.underlying3 g5
      obtain ⟨z0, z1, z2, z3, q, _, t0, t1, t2, t3⟩ := trod_array4 Tryz.underlying29 ku g6
      obtain ⟨s0, f0, _, v0⟩ := DataW.trod_int Tryz.underlying27 t0
      obtain ⟨s1, f1, _, v1⟩ := DataW.trod_int Tryz.underlying27 t1
      obtain ⟨s2, f2, _, v2⟩ := DataW.trod_int Tryz.underlying27 t2
      obtain ⟨s3, f3, _, v3⟩ := DataW.trod_int Tryz.underlying27 t3
      simp at e2 e3 e4 e5 f0 f1 f2 f3
      subst e2 e3 e4 e5 f0 f1 f2 f3
      have b0 := u64_bd v0
      have b1 := u64_bd v1
      have b2 := u64_bd v2
      have b3 := u64_bd v3
      obtain ⟨n0, rfl⟩ := Int.eq_ofNat_of_zero_le b0.1
      obtain ⟨n1, rfl⟩ := Int.eq_ofNat_of_zero_le b1.1
      obtain ⟨n2, rfl⟩ := Int.eq_ofNat_of_zero_le b2.1
      obtain ⟨n3, rfl⟩ := Int.eq_ofNat_of_zero_le b3.1
      have b4 := i64_bd w3
      have b5 := i64_bd w4
      have b6 := i64_bd w5
      exact ⟨⟨ag, aa, bg, ba, two, size, level, birth, n0, n1, n2, n3⟩, rfl, by unfold PtrD.Ok; dsimp only; omega⟩

end
end Go.Proofs.YtlpbbjjibnbooaaGreatDoor

namespace Go.Proofs.YtlpbbjjibnbooaaGreatDoor
set_option linter.unusedVariables false
set_option linter.unusedSimpArgs false
open Go.ChangeShapes Go.WideShapes Go.ChangeAt Go.RowKit Go.Deep Go.Joins

section
variable {H : Type} {enc : TypeId × Value → H} {w : World} {base : Nat} {spare : Nat → Bool} {held : Bool}
end
end Go.Proofs.YtlpbbjjibnbooaaGreatDoor

namespace Go.Proofs.YtlpbbjjibnbooaaGreatDoor
set_option linter.unusedVariables false
set_option linter.unusedSimpArgs false
open Go.ChangeShapes Go.WideShapes Go.ChangeAt Go.RowKit Go.Deep Go.Joins

section
variable {H : Type} {enc : TypeId × Value → H} {w : World} {base : Nat} {spare : Nat → Bool} {held : Bool}
theorem open_nodes {m0 : Nat} {cs : List Value} {y : DataW H × List MemPlace} (h : DataW.trod enc Tryz.prog w base spare held m0 33 cs = some y) (hl : cs.length = 13) :
    ∃ (n : Int) (p : PtrD), cs = .int .i64 n :: p.cells.toList ∧ -9223372036854775808 ≤ n ∧ n ≤ 9223372036854775807 ∧ p.Ok := by
  have hk1 : Tryz.prog.cellsOf 3 = 1 := by kernel_rfl
  have hk2 : Tryz.prog.cellsOf 31 = 12 := by kernel_rfl
  obtain ⟨xs, m, _, _, _, hlen, hg⟩ := DataW.trod_struct Tryz.underlying33 h
  match xs, hlen with
  | [y0, y1], _ =>
    have t0 : DataW.trod enc Tryz.prog w base spare held m 3 ((cs.drop 0).take (Tryz.prog.cellsOf 3)) = [y0, y1][0]? := hg 0 _ rfl
    have t1 : DataW.trod enc Tryz.prog w base spare held m 31 ((cs.drop 1).take (Tryz.prog.cellsOf 31)) = [y0, y1][1]? := hg 1 _ rfl
    rw [hk1] at t0
    rw [hk2] at t1
    obtain ⟨x, e1, o1⟩ := open_ptrs (cs := (cs.drop 1).take 12) t1 (by rw [List.length_take, List.length_drop]; omega)
    obtain ⟨n, e0, _, wn⟩ := DataW.trod_int Tryz.underlying3 t0
    have bn := i64_bd wn
    refine ⟨n, x, ?_, bn.1, bn.2, o1⟩
    have a1 : (cs.drop 1).take 12 = cs.drop 1 := List.take_of_length_le (by rw [List.length_drop]; omega)
    rw [← e1, a1]
    have := List.take_append_drop 1 cs
    rw [show cs.take 1 = [.int .i64 n] from e0] at this
    exact this.symm
set_option maxRecDepth 100000 in
theorem open_uber {b0 : Nat} {v : Value} {d : DataW H} {p : List MemPlace} (hv : Value.okWide Tryz.prog w .any b0 35 v) (h : DataW.Trod enc Tryz.prog w base spare held 35 v d p) :
    ∃ (t n : Int) (p : PtrD), v = .agg #[.int .i64 t, .int .i64 n, .int .i64 p.ag, .int .i64 p.aa, .int .i64 p.bg, .int .i64 p.ba, .bool p.two, .int .i64 p.size, .int .i64 p.level, .int .i64 p.birth, .int .u64 p.s0, .int .u64 p.s1, .int .u64 p.s2, .int .u64 p.s3] ∧ (-9223372036854775808 ≤ t ∧ t ≤ 9223372036854775807) ∧ (-9223372036854775808 ≤ n ∧ n ≤ 9223372036854775807) ∧ p.Ok := by
  obtain ⟨cs, rfl, hsz⟩ := okWide_struct Tryz.underlying35 hv
  have hk : Tryz.prog.cellsOf 35 = 14 := by kernel_rfl
  have hk1 : Tryz.prog.cellsOf 3 = 1 := by kernel_rfl
  have hk2 : Tryz.prog.cellsOf 33 = 13 := by kernel_rfl
  obtain ⟨fuel, hf⟩ := h
  have hl : cs.toList.length = 14 := by rw [Array.length_toList, hsz, hk]
  obtain ⟨xs, m, _, _, _, hlen, hg⟩ := DataW.trod_struct Tryz.underlying35 hf
  match xs, hlen with
  | [y0, y1], _ =>
    have t0 : DataW.trod enc Tryz.prog w base spare held m 3 ((cs.toList.drop 0).take (Tryz.prog.cellsOf 3)) = [y0, y1][0]? := hg 0 _ rfl
    have t1 : DataW.trod enc Tryz.prog w base spare held m 33 ((cs.toList.drop 1).take (Tryz.prog.cellsOf 33)) = [y0, y1][1]? := hg 1 _ rfl
    rw [hk1] at t0
    rw [hk2] at t1
    obtain ⟨n, x, e1, b1, b2, o1⟩ := open_nodes (cs := (cs.toList.drop 1).take 13) t1 (by rw [List.length_take, List.length_drop]; omega)
    obtain ⟨t, e0, _, wt⟩ := DataW.trod_int Tryz.underlying3 t0
    have bt := i64_bd wt
    refine ⟨t, n, x, ?_, bt, ⟨b1, b2⟩, o1⟩
    have hall : cs.toList = .int .i64 t :: .int .i64 n :: x.cells.toList := by
      have a1 : (cs.toList.drop 1).take 13 = cs.toList.drop 1 := List.take_of_length_le (by rw [List.length_drop]; omega)
      rw [← e1, a1]
      have := List.take_append_drop 1 cs.toList
      rw [show cs.toList.take 1 = [.int .i64 t] from e0] at this
      exact this.symm
    have hh : cs = (.int .i64 t :: .int .i64 n :: x.cells.toList).toArray := by rw [← hall]
    rw [hh]
    rfl
end
end Go.Proofs.YtlpbbjjibnbooaaGreatDoor

namespace Go.Proofs.YtlpbbjjibnbooaaGreatDoor
set_option linter.unusedVariables false
set_option linter.unusedSimpArgs false
open Go.RowKit

def levN (size : Int) : Nat := if size ≤ 256 then 0 else if size ≤ 1024 then 1 else if size ≤ 4096 then 2 else 3
theorem level_any (size : Int) (w : World) : Calls Tryz.prog 76 #[.int .i64 size] w fun e w' => e = .returned (.int .i64 (levN size)) ∧ w = w' := by
  have HV : Hid (levN size = if size ≤ 256 then 0 else if size ≤ 1024 then 1 else if size ≤ 4096 then 2 else 3) := Lib.hid rfl
  go_enter Tryz.func76, Tryz.ntmps76
  go_wp2_with fail
  go_loop [3, 4] (fun l m => ∃ k : Nat, k ≤ 3 ∧ l = .int .i64 k ∧ ((k = 0 ∧ m = .int .i64 256) ∨ (k = 1 ∧ m = .int .i64 1024 ∧ 256 < size) ∨ (k = 2 ∧ m = .int .i64 4096 ∧ 1024 < size) ∨ (k = 3 ∧ m = .int .i64 16384 ∧ 4096 < size))) (fun l _ => 3 - (RowKit.intOf l).toNat)
  case atStart => exact ⟨0, by omega, rfl, .inl ⟨rfl, rfl⟩⟩
  case round =>
    obtain ⟨k, hk, rfl, hc⟩ := hrel
    rcases hc with ⟨rfl, rfl⟩ | ⟨rfl, rfl, hlt⟩ | ⟨rfl, rfl, hlt⟩ | ⟨rfl, rfl, hlt⟩
    · by_cases h : 256 < size
      · go_wp2_with fail
        go_round
        case rel => exact ⟨1, by omega, rfl, .inr (.inl ⟨rfl, rfl, h⟩)⟩
        case measure => simp [RowKit.intOf]
      · go_wp2_with fail
        go_ret
        refine ⟨ret_int ?_, rfl⟩
        rw [HV.out, if_pos (by omega)]; rfl
    · by_cases h : 1024 < size
      · go_wp2_with fail
        go_round
        case rel => exact ⟨2, by omega, rfl, .inr (.inr (.inl ⟨rfl, rfl, h⟩))⟩
        case measure => simp [RowKit.intOf]
      · go_wp2_with fail
        go_ret
        refine ⟨ret_int ?_, rfl⟩
        rw [HV.out, if_neg (by omega), if_pos (by omega)]; rfl
    · by_cases h : 4096 < size
      · go_wp2_with fail
        go_round
        case rel => exact ⟨3, by omega, rfl, .inr (.inr (.inr ⟨rfl, rfl, h⟩))⟩
        case measure => simp [RowKit.intOf]
      · go_wp2_with fail
        go_ret
        refine ⟨ret_int ?_, rfl⟩
        rw [HV.out, if_neg (by omega), if_neg (by omega), if_pos (by omega)]; rfl
    · have hr : Hid (levN size = 3) := by unfold Hid; rw [HV.out, if_neg (by omega), if_neg (by omega), if_neg (by omega)]
      by_cases h : 16384 < size
      · go_wp2_with fail
        go_ret
        exact ⟨ret_int (by rw [hr.out]; rfl), rfl⟩
      · go_wp2_with fail
        go_ret
        exact ⟨ret_int (by rw [hr.out]; rfl), rfl⟩

end Go.Proofs.YtlpbbjjibnbooaaGreatDoor

namespace Go.Proofs.YtlpbbjjibnbooaaGreatDoor
open Go.RowKit
set_option linter.unusedVariables false

theorem Tryz.stoodPlace : Tryz.prog.stoodInHeld 26 = false := by kernel_rfl
theorem Tryz.stoodPtr : Tryz.prog.stoodInHeld 31 = false := by kernel_rfl

theorem eqIn_place (w : World) (d : Nat) (a b c e : Int) : (Op.equalIn (d + 2) 26 (.agg #[.int .i64 a, .int .i64 b]) (.agg #[.int .i64 c, .int .i64 e])).run Tryz.prog w = .ok (a == c && b == e) w := by
  rw [run_equalIn_struct w (d + 1) _ _ _ (by kernel_rfl) Tryz.stoodPlace]
  simp [go_sem, Tryz.underlying26]
  by_cases h1 : a = c <;> by_cases h2 : b = e <;> simp [h1, h2]

theorem eqIn_sum (w : World) (d : Nat) (a0 a1 a2 a3 b0 b1 b2 b3 : Nat) : (Op.equalIn (d + 2) 29 (.agg #[.int .u64 a0, .int .u64 a1, .int .u64 a2, .int .u64 a3]) (.agg #[.int .u64 b0, .int .u64 b1, .int .u64 b2, .int .u64 b3])).run Tryz.prog w =
    .ok ((a0 : Int) == b0 && ((a1 : Int) == b1 && ((a2 : Int) == b2 && (a3 : Int) == b3))) w := by
  rw [Op.equalIn]
  simp only [Sem.run_bind, run_underlying Tryz.underlying29, Result.andThen_ok]
  simp [go_sem, Tryz.sizeOf27, Std.Legacy.Range.forIn_eq_forIn_range', Std.Legacy.Range.size, List.range']
  repeat' split
  all_goals (congr 1; simp_all)

def ptrEq (p q : PtrD) : Bool := decide (p = q)
theorem eql_ptr (p q : PtrD) (w : World) : (binOp .eql 31 (.agg p.cells) (.agg q.cells)).run Tryz.prog w = .ok (.bool (ptrEq p q)) w := by
  obtain ⟨a1, a2, a3, a4, a5, a6, a7, a8, a9, aa, ab, ac⟩ := p
  obtain ⟨b1, b2, b3, b4, b5, b6, b7, b8, b9, ba, bb, bc⟩ := q
  rw [run_eql_struct, run_equalIn_struct w 9999 _ _ _ (by kernel_rfl) Tryz.stoodPtr]
  simp [go_sem, Tryz.underlying31, eqIn_place, eqIn_sum, PtrD.cells, ptrEq]
  repeat' split
  all_goals (congr 2; try simp_all)
  all_goals grind
theorem eql_place (a b c e : Int) (w : World) : (binOp .eql 26 (.agg #[.int .i64 a, .int .i64 b]) (.agg #[.int .i64 c, .int .i64 e])).run Tryz.prog w = .ok (.bool (a == c && b == e)) w := by
  rw [run_eql_struct, run_equalIn_struct w 9999 _ _ _ (by kernel_rfl) Tryz.stoodPlace]
  simp [go_sem, Tryz.underlying26]
  by_cases h1 : a = c <;> by_cases h2 : b = e <;> simp [h1, h2]
end Go.Proofs.YtlpbbjjibnbooaaGreatDoor

namespace Go.Proofs.YtlpbbjjibnbooaaGreatDoor
open Go.RowKit
set_option linter.unusedVariables false

def ptrZ : PtrD := ⟨0, 0, 0, 0, false, 0, 0, 0, 0, 0, 0, 0⟩
/-- All of it is zero. -/
def noneB (p : PtrD) : Bool := ptrEq p ptrZ
set_option maxRecDepth 100000 in
theorem none_any (p : PtrD) (w : World) :
    Calls Tryz.prog 74 #[.agg p.cells] w fun e w' => e = .returned (.bool (noneB p)) ∧ Below w.heap.size w w' := by
  have h := PtrAt.new w p 31
  obtain ⟨h0, h1, h2, h3, h4, h5, h6, h7, h8, h9, ha, hc⟩ := h
  simp only [Nat.zero_add] at h1 h2 h3 h4 h5 h6 h7 h8 h9 ha hc
  have he : ∀ W, (binOp .eql 31 (.agg #[.int .i64 p.ag, .int .i64 p.aa, .int .i64 p.bg, .int .i64 p.ba, .bool p.two, .int .i64 p.size, .int .i64 p.level, .int .i64 p.birth, .int .u64 p.s0, .int .u64 p.s1, .int .u64 p.s2, .int .u64 p.s3])
      (.agg #[.int .i64 0, .int .i64 0, .int .i64 0, .int .i64 0, .bool false, .int .i64 0, .int .i64 0, .int .i64 0, .int .u64 0, .int .u64 0, .int .u64 0, .int .u64 0])).run Tryz.prog W = .ok (.bool (noneB p)) W := fun W => eql_ptr p ptrZ W
  have hb := (Below.refl w.heap.size w).alloc (Nat.le_refl _) (.cells p.cells 31)
  go_enter Tryz.func74, Tryz.ntmps74
  go_wp2_with fail
  go_ret
  exact ⟨rfl, hb⟩
/-- Whether a pointer can be laid; its bytes. -/
def layOk (p : PtrD) : Bool := withinL 4294967295 [p.ag, p.aa, p.bg, p.ba, p.birth] && withinL 255 [p.size, p.level]
def ptrOne (p : PtrD) : Int := p.size + p.level * 256 + if p.two then 65536 else 0
def ptrL (p : PtrD) : List UInt8 := padL (smallL [p.ag, p.aa, p.bg, p.ba, ptrOne p, p.birth] ++ sumL [p.s0, p.s1, p.s2, p.s3]) 64

set_option maxRecDepth 100000 in
set_option maxHeartbeats 8000000 in
theorem pbytes_any (p : PtrD) (w : World) (hok : p.Ok) :
    Calls Tryz.prog 62 #[.agg p.cells] w fun e w' => e = .returned (.tuple #[str (if layOk p then ptrL p else []), .int .i64 (if layOk p then 0 else 1)]) ∧ Below w.heap.size w w' := by
  have h := PtrAt.new w p 31
  obtain ⟨h0, h1, h2, h3, h4, h5, h6, h7, h8, h9, ha, hc⟩ := h
  simp only [Nat.zero_add] at h1 h2 h3 h4 h5 h6 h7 h8 h9 ha hc
  have hb := (Below.refl w.heap.size w).alloc (Nat.le_refl _) (.cells p.cells 31)
  have hs : w.heap.size < (w.alloc (.cells p.cells 31)).heap.size := by simp
  have HL : Hid (layOk p = (withinL 4294967295 [p.ag, p.aa, p.bg, p.ba, p.birth] && withinL 255 [p.size, p.level])) := Lib.hid rfl
  obtain ⟨g0, g1, g2, g3, g4, g5, g6, g7, g8, g9⟩ := hok
  have HI1 : Hid (IntsAt ((w.alloc (.cells p.cells 31)).alloc (.cells #[.int .i64 p.ag, .int .i64 p.aa, .int .i64 p.bg, .int .i64 p.ba, .int .i64 p.birth] 3)) (w.heap.size + 1) 0 [p.ag, p.aa, p.bg, p.ba, p.birth]) := by
    have := IntsAt.new (w.alloc (.cells p.cells 31)) [p.ag, p.aa, p.bg, p.ba, p.birth] 3
    rw [World.size_alloc] at this
    exact this
  have hb1 := hb.alloc hb.size (.cells #[.int .i64 p.ag, .int .i64 p.aa, .int .i64 p.bg, .int .i64 p.ba, .int .i64 p.birth] 3)
  have HP : Hid (PtrAt ((w.alloc (.cells p.cells 31)).alloc (.cells #[.int .i64 p.ag, .int .i64 p.aa, .int .i64 p.bg, .int .i64 p.ba, .int .i64 p.birth] 3)) w.heap.size 0 p) :=
    Lib.hid ((PtrAt.new w p 31).keep ((Below.refl _ _).alloc (Nat.le_refl _) _) hs)
  cases hc1 : withinL 4294967295 [p.ag, p.aa, p.bg, p.ba, p.birth] with
  | true =>
    have HC1 := Lib.hid hc1
    clear hc1
    go_enter Tryz.func62, Tryz.ntmps62
    go_wp2_with fail
    refine (within_any 4294967295 (w.heap.size + 1) 5 5 [p.ag, p.aa, p.bg, p.ba, p.birth] _ rfl (by omega) HI1.out).mono ?_
    rintro e w2 ⟨rfl, k, rfl⟩
    rw [HC1.out]
    have hP2 : PtrAt (((w.alloc (.cells p.cells 31)).alloc (.cells #[.int .i64 p.ag, .int .i64 p.aa, .int .i64 p.bg, .int .i64 p.ba, .int .i64 p.birth] 3)).drewN k) w.heap.size 0 p := HP.out
    have hb2 := below_drewN hb1 k
    have hs2 : w.heap.size < (((w.alloc (.cells p.cells 31)).alloc (.cells #[.int .i64 p.ag, .int .i64 p.aa, .int .i64 p.bg, .int .i64 p.ba, .int .i64 p.birth] 3)).drewN k).heap.size := by simp; omega
    clear h0 h1 h2 h3 h4 h5 h6 h7 h8 h9 ha hc hb hs hb1 HI1 HP
    generalize (((w.alloc (.cells p.cells 31)).alloc (.cells #[.int .i64 p.ag, .int .i64 p.aa, .int .i64 p.bg, .int .i64 p.ba, .int .i64 p.birth] 3)).drewN k) = w2 at *
    have HP2 := Lib.hid hP2
    obtain ⟨h0, h1, h2, h3, h4, h5, h6, h7, h8, h9, ha, hc⟩ := hP2
    simp only [Nat.zero_add] at h1 h2 h3 h4 h5 h6 h7 h8 h9 ha hc
    have HI2 : Hid (IntsAt (w2.alloc (.cells #[.int .i64 p.size, .int .i64 p.level] 3)) w2.heap.size 0 [p.size, p.level]) := Lib.hid (IntsAt.new w2 [p.size, p.level] 3)
    have hb3 := hb2.alloc hb2.size (.cells #[.int .i64 p.size, .int .i64 p.level] 3)
    have HP3 := Lib.hid (HP2.out.keep ((Below.refl _ _).alloc (Nat.le_refl _) (.cells #[.int .i64 p.size, .int .i64 p.level] 3)) hs2)
    cases hc2 : withinL 255 [p.size, p.level] with
    | true =>
      have HLT : Hid (layOk p = true) := by unfold Hid; rw [HL.out, HC1.out, hc2]; rfl
      have HC2 := Lib.hid hc2
      clear hc2 HL
      go_wp2_with fail
      refine (within_any 255 w2.heap.size 2 2 [p.size, p.level] _ rfl (by omega) HI2.out).mono ?_
      rintro e w3 ⟨rfl, k3, rfl⟩
      rw [HC2.out]
      have hP3 : PtrAt ((w2.alloc (.cells #[.int .i64 p.size, .int .i64 p.level] 3)).drewN k3) w.heap.size 0 p := HP3.out
      have hb4 := below_drewN hb3 k3
      have hs4 : w.heap.size < ((w2.alloc (.cells #[.int .i64 p.size, .int .i64 p.level] 3)).drewN k3).heap.size := by simp; omega
      clear h0 h1 h2 h3 h4 h5 h6 h7 h8 h9 ha hc hb2 hb3 HI2 HP2 HP3
      obtain ⟨w4, hw4⟩ : ∃ x, x = ((w2.alloc (.cells #[.int .i64 p.size, .int .i64 p.level] 3)).drewN k3) := ⟨_, rfl⟩
      rw [← hw4] at hP3 hb4 hs4 ⊢
      clear hw4
      have HP4 := Lib.hid hP3
      obtain ⟨h0, h1, h2, h3, h4, h5, h6, h7, h8, h9, ha, hc⟩ := hP3
      simp only [Nat.zero_add] at h1 h2 h3 h4 h5 h6 h7 h8 h9 ha hc
      have hsz : 0 ≤ p.size ∧ p.size ≤ 255 ∧ 0 ≤ p.level ∧ p.level ≤ 255 := by
        have := HC2.out
        simp [withinL] at this
        omega
      obtain ⟨q1, q2, q3, q4⟩ := hsz
      have HO : Hid (ptrOne p = p.size + p.level * 256 + if p.two then 65536 else 0) := Lib.hid rfl
      cases htwo : p.two with
      | true =>
        rw [htwo] at h4 HO
        have HO2 : Hid (ptrOne p = p.size + p.level * 256 + 65536) := by unfold Hid; rw [HO.out]; simp
        have HIS : IntsAt (w4.alloc (.cells #[.int .i64 p.ag, .int .i64 p.aa, .int .i64 p.bg, .int .i64 p.ba, .int .i64 (p.size + p.level * 256 + 65536), .int .i64 p.birth] 3)).drew w4.heap.size 0 [p.ag, p.aa, p.bg, p.ba, p.size + p.level * 256 + 65536, p.birth] := IntsAt.new w4 [p.ag, p.aa, p.bg, p.ba, p.size + p.level * 256 + 65536, p.birth] 3
        have HSM := Lib.hid (small_any w4.heap.size 6 6 [p.ag, p.aa, p.bg, p.ba, p.size + p.level * 256 + 65536, p.birth] _ rfl (by omega) HIS)
        have HFB := Lib.hid fun W => fbytes_any p.s0 p.s1 p.s2 p.s3 W g0 g1 g2 g3
        have hsa : (smallL [p.ag, p.aa, p.bg, p.ba, p.size + p.level * 256 + 65536, p.birth]).length ≤ 24 := smallL_len [p.ag, p.aa, p.bg, p.ba, p.size + p.level * 256 + 65536, p.birth]
        have hsb : (sumL [p.s0, p.s1, p.s2, p.s3]).length ≤ 32 := Nat.le_of_eq (sumL_len [p.s0, p.s1, p.s2, p.s3])
        have HPL : Hid (ptrL p = padL (smallL [p.ag, p.aa, p.bg, p.ba, p.size + p.level * 256 + 65536, p.birth] ++ sumL [p.s0, p.s1, p.s2, p.s3]) 64) := by unfold Hid ptrL; rw [HO2.out]
        generalize smallL [p.ag, p.aa, p.bg, p.ba, p.size + p.level * 256 + 65536, p.birth] = sa at HSM hsa HPL
        generalize sumL [p.s0, p.s1, p.s2, p.s3] = sb at HFB hsb HPL
        have hcc : ¬ 9223372036854775807 < (ByteArray.mk sa.toArray).size + (ByteArray.mk sb.toArray).size := by simp [ByteArray.size]; omega
        have hcd : ¬ 9223372036854775807 < sa.length + sb.length := by omega
        have HPA := Lib.hid fun W => pad_any (sa ++ sb) 64 W (by rw [List.length_append]; omega)
        clear HIS HO2
        clear htwo HO g0 g1 g2 g3 g4 g5 g6 g7 g8 g9
        go_wp2_with fail
        go_region_held3 (fun W => W.cell? ⟨w.heap.size, 0, none⟩ = some (.int .i64 p.ag) ∧ W.cell? ⟨w.heap.size, 1, none⟩ = some (.int .i64 p.aa) ∧ W.cell? ⟨w.heap.size, 2, none⟩ = some (.int .i64 p.bg) ∧ W.cell? ⟨w.heap.size, 3, none⟩ = some (.int .i64 p.ba) ∧
            W.cell? ⟨w.heap.size, 7, none⟩ = some (.int .i64 p.birth) ∧ W.cell? ⟨w.heap.size, 8, none⟩ = some (.int .u64 p.s0) ∧ W.cell? ⟨w.heap.size, 9, none⟩ = some (.int .u64 p.s1) ∧ W.cell? ⟨w.heap.size, 10, none⟩ = some (.int .u64 p.s2) ∧ W.cell? ⟨w.heap.size, 11, none⟩ = some (.int .u64 p.s3) ∧ Below w4.heap.size w4 W)
          (first
            | exact ⟨h0, h1, h2, h3, h7, h8, h9, ha, hc, (Below.refl _ _).drew⟩
            | exact ‹_ ∧ _ ∧ _ ∧ _ ∧ _ ∧ _ ∧ _ ∧ _ ∧ _ ∧ Below w4.heap.size w4 _›
            | (obtain ⟨t0, t1, t2, t3, t4, t5, t6, t7, t8, t9⟩ := ‹_ ∧ _ ∧ _ ∧ _ ∧ _ ∧ _ ∧ _ ∧ _ ∧ _ ∧ Below w4.heap.size w4 _›; exact ⟨cell_alloc t0 _, cell_alloc t1 _, cell_alloc t2 _, cell_alloc t3 _, cell_alloc t4 _, cell_alloc t5 _, cell_alloc t6 _, cell_alloc t7 _, cell_alloc t8 _, t9.alloc t9.size _⟩)
            | (obtain ⟨t0, t1, t2, t3, t4, t5, t6, t7, t8, t9⟩ := ‹_ ∧ _ ∧ _ ∧ _ ∧ _ ∧ _ ∧ _ ∧ _ ∧ _ ∧ Below w4.heap.size w4 _›; have hq := Nat.lt_of_lt_of_le hs4 t9.size; exact ⟨keep_cell hbc t0 hq, keep_cell hbc t1 hq, keep_cell hbc t2 hq, keep_cell hbc t3 hq, keep_cell hbc t4 hq, keep_cell hbc t5 hq, keep_cell hbc t6 hq, keep_cell hbc t7 hq, keep_cell hbc t8 hq, t9.trans (hbc.mono t9.size)⟩))
          (first
            | (go_at_call 96; refine HSM.out.mono ?_; rintro e wc ⟨rfl, hbc⟩)
            | (go_at_call 27; refine (HFB.out _).mono ?_; rintro e wc ⟨rfl, hbc⟩)
            | (go_at_call 25; rw [ByteArray.mk_append_mk]; refine (HPA.out _).mono ?_; rintro e wc ⟨rfl, hbc⟩))
        obtain ⟨t0, t1, t2, t3, t4, t5, t6, t7, t8, t9⟩ := ‹_ ∧ _ ∧ _ ∧ _ ∧ _ ∧ _ ∧ _ ∧ _ ∧ _ ∧ Below w4.heap.size w4 _›
        have hl := HLT.out
        go_wp2_with fail
        go_ret2
        exact ⟨by rw [HPL.out]; rfl, hb4.trans (t9.mono hb4.size)⟩
      | false =>
        rw [htwo] at h4 HO
        have HO2 : Hid (ptrOne p = p.size + p.level * 256) := by unfold Hid; rw [HO.out]; simp
        have HIS : IntsAt (w4.alloc (.cells #[.int .i64 p.ag, .int .i64 p.aa, .int .i64 p.bg, .int .i64 p.ba, .int .i64 (p.size + p.level * 256), .int .i64 p.birth] 3)).drew w4.heap.size 0 [p.ag, p.aa, p.bg, p.ba, p.size + p.level * 256, p.birth] := IntsAt.new w4 [p.ag, p.aa, p.bg, p.ba, p.size + p.level * 256, p.birth] 3
        have HSM := Lib.hid (small_any w4.heap.size 6 6 [p.ag, p.aa, p.bg, p.ba, p.size + p.level * 256, p.birth] _ rfl (by omega) HIS)
        have HFB := Lib.hid fun W => fbytes_any p.s0 p.s1 p.s2 p.s3 W g0 g1 g2 g3
        have hsa : (smallL [p.ag, p.aa, p.bg, p.ba, p.size + p.level * 256, p.birth]).length ≤ 24 := smallL_len [p.ag, p.aa, p.bg, p.ba, p.size + p.level * 256, p.birth]
        have hsb : (sumL [p.s0, p.s1, p.s2, p.s3]).length ≤ 32 := Nat.le_of_eq (sumL_len [p.s0, p.s1, p.s2, p.s3])
        have HPL : Hid (ptrL p = padL (smallL [p.ag, p.aa, p.bg, p.ba, p.size + p.level * 256, p.birth] ++ sumL [p.s0, p.s1, p.s2, p.s3]) 64) := by unfold Hid ptrL; rw [HO2.out]
        generalize smallL [p.ag, p.aa, p.bg, p.ba, p.size + p.level * 256, p.birth] = sa at HSM hsa HPL
        generalize sumL [p.s0, p.s1, p.s2, p.s3] = sb at HFB hsb HPL
        have hcc : ¬ 9223372036854775807 < (ByteArray.mk sa.toArray).size + (ByteArray.mk sb.toArray).size := by simp [ByteArray.size]; omega
        have hcd : ¬ 9223372036854775807 < sa.length + sb.length := by omega
        have HPA := Lib.hid fun W => pad_any (sa ++ sb) 64 W (by rw [List.length_append]; omega)
        clear HIS HO2
        clear htwo HO g0 g1 g2 g3 g4 g5 g6 g7 g8 g9
        go_wp2_with fail
        go_region_held3 (fun W => W.cell? ⟨w.heap.size, 0, none⟩ = some (.int .i64 p.ag) ∧ W.cell? ⟨w.heap.size, 1, none⟩ = some (.int .i64 p.aa) ∧ W.cell? ⟨w.heap.size, 2, none⟩ = some (.int .i64 p.bg) ∧ W.cell? ⟨w.heap.size, 3, none⟩ = some (.int .i64 p.ba) ∧
            W.cell? ⟨w.heap.size, 7, none⟩ = some (.int .i64 p.birth) ∧ W.cell? ⟨w.heap.size, 8, none⟩ = some (.int .u64 p.s0) ∧ W.cell? ⟨w.heap.size, 9, none⟩ = some (.int .u64 p.s1) ∧ W.cell? ⟨w.heap.size, 10, none⟩ = some (.int .u64 p.s2) ∧ W.cell? ⟨w.heap.size, 11, none⟩ = some (.int .u64 p.s3) ∧ Below w4.heap.size w4 W)
          (first
            | exact ⟨h0, h1, h2, h3, h7, h8, h9, ha, hc, (Below.refl _ _).drew⟩
            | exact ‹_ ∧ _ ∧ _ ∧ _ ∧ _ ∧ _ ∧ _ ∧ _ ∧ _ ∧ Below w4.heap.size w4 _›
            | (obtain ⟨t0, t1, t2, t3, t4, t5, t6, t7, t8, t9⟩ := ‹_ ∧ _ ∧ _ ∧ _ ∧ _ ∧ _ ∧ _ ∧ _ ∧ _ ∧ Below w4.heap.size w4 _›; exact ⟨cell_alloc t0 _, cell_alloc t1 _, cell_alloc t2 _, cell_alloc t3 _, cell_alloc t4 _, cell_alloc t5 _, cell_alloc t6 _, cell_alloc t7 _, cell_alloc t8 _, t9.alloc t9.size _⟩)
            | (obtain ⟨t0, t1, t2, t3, t4, t5, t6, t7, t8, t9⟩ := ‹_ ∧ _ ∧ _ ∧ _ ∧ _ ∧ _ ∧ _ ∧ _ ∧ _ ∧ Below w4.heap.size w4 _›; have hq := Nat.lt_of_lt_of_le hs4 t9.size; exact ⟨keep_cell hbc t0 hq, keep_cell hbc t1 hq, keep_cell hbc t2 hq, keep_cell hbc t3 hq, keep_cell hbc t4 hq, keep_cell hbc t5 hq, keep_cell hbc t6 hq, keep_cell hbc t7 hq, keep_cell hbc t8 hq, t9.trans (hbc.mono t9.size)⟩))
          (first
            | (go_at_call 96; refine HSM.out.mono ?_; rintro e wc ⟨rfl, hbc⟩)
            | (go_at_call 27; refine (HFB.out _).mono ?_; rintro e wc ⟨rfl, hbc⟩)
            | (go_at_call 25; rw [ByteArray.mk_append_mk]; refine (HPA.out _).mono ?_; rintro e wc ⟨rfl, hbc⟩))
        obtain ⟨t0, t1, t2, t3, t4, t5, t6, t7, t8, t9⟩ := ‹_ ∧ _ ∧ _ ∧ _ ∧ _ ∧ _ ∧ _ ∧ _ ∧ _ ∧ Below w4.heap.size w4 _›
        have hl := HLT.out
        go_wp2_with fail
        go_ret2
        exact ⟨by rw [HPL.out]; rfl, hb4.trans (t9.mono hb4.size)⟩
    | false =>
      have HLT : Hid (layOk p = false) := by unfold Hid; rw [HL.out, HC1.out, hc2]; rfl
      have HC2 := Lib.hid hc2
      clear hc2 HL
      go_wp2_with fail
      refine (within_any 255 w2.heap.size 2 2 [p.size, p.level] _ rfl (by omega) HI2.out).mono ?_
      rintro e w3 ⟨rfl, k3, rfl⟩
      rw [HC2.out]
      have hl := HLT.out
      go_wp2_with fail
      all_goals go_ret2
      all_goals exact ⟨rfl, below_drewN hb3 _⟩
  | false =>
    have HLT : Hid (layOk p = false) := by unfold Hid; rw [HL.out, hc1]; rfl
    have HC1 := Lib.hid hc1
    clear hc1 HL
    rw [HLT.out]
    go_enter Tryz.func62, Tryz.ntmps62
    go_wp2_with fail
    refine (within_any 4294967295 (w.heap.size + 1) 5 5 [p.ag, p.aa, p.bg, p.ba, p.birth] _ rfl (by omega) HI1.out).mono ?_
    rintro e w2 ⟨rfl, k, rfl⟩
    rw [HC1.out]
    go_wp2_with fail
    go_ret2
    exact ⟨rfl, below_drewN hb1 _⟩
end Go.Proofs.YtlpbbjjibnbooaaGreatDoor

namespace Go.Proofs.YtlpbbjjibnbooaaGreatDoor
open Go.RowKit
set_option linter.unusedVariables false

end Go.Proofs.YtlpbbjjibnbooaaGreatDoor

namespace Go.Proofs.YtlpbbjjibnbooaaGreatDoor
open Go.RowKit
set_option linter.unusedVariables false

theorem layL_ne {x n : Nat} (h : 0 < n) : layL x n ≠ [] := by
  intro e
  have := layL_len x n
  rw [e] at this
  simp at this; omega
end Go.Proofs.YtlpbbjjibnbooaaGreatDoor
