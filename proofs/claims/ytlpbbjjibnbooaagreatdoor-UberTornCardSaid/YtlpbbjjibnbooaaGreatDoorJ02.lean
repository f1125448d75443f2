/-
  What pointers' functions call: cmp.Compare, cmp.Or, ptr.within, ptr.small, fletch.Bytes.
  Contracts of package ptr: None, Less, Places, Bytes.
  == on places, sums and pointers.
  Contracts of package ptr: None, Bytes.
  The walks of LeLays, LeUnlike, LePads.
  The walk of LeUnlike.
  Contracts of package geom, second part: Sectors, Devs, First.
-/
import Derived.Test.YtlpbbjjibnbooaaGreatDoorJ01
import Derived.StillTailTactics
namespace Go.Proofs.YtlpbbjjibnbooaaGreatDoor
open Go.RowKit
set_option linter.unusedVariables false

/-- From b, off on lie these integers. -/
def IntsAt (w : World) (b off : Nat) (l : List Int) : Prop := b < w.heap.size ∧ ∀ (i : Nat) (x : Int), l[i]? = some x → w.cell? ⟨b, off + i, none⟩ = some (.int .i64 x)
theorem IntsAt.below {w w' : World} {b off B : Nat} {l : List Int} (h : IntsAt w b off l) (hb : Below B w w') (hB : w.heap.size ≤ B) : IntsAt w' b off l := by
  obtain ⟨h1, h2⟩ := h
  exact ⟨Nat.lt_of_lt_of_le h1 hb.size, fun i x hx => (hb.cell (p := ⟨b, off + i, none⟩) (by show b < B; omega)).trans (h2 i x hx)⟩
theorem IntsAt.new (w : World) (l : List Int) (t : TypeId) : IntsAt (w.alloc (.cells ((l.map (Value.int .i64)).toArray) t)) w.heap.size 0 l := by
  refine ⟨by simp, fun i x hx => ?_⟩
  exact cell_new rfl (by simp [hx])

def withinL (most : Int) (l : List Int) : Bool := l.all fun x => decide (0 ≤ x) && decide (x ≤ most)
theorem within_any (most : Int) (b n c : Nat) (l : List Int) (w : World) (hl : l.length = n) (hn : n ≤ 100) (h : IntsAt w b 0 l) :
    Calls Tryz.prog 95 #[.int .i64 most, .slice (some ⟨b, 0, none⟩) n c] w fun e w' => e = .returned (.bool (withinL most l)) ∧ ∃ q, w' = w.drewN q := by
  have H := Lib.hid h
  have HL := Lib.hid hl
  clear h hl
  go_enter Tryz.func95, Tryz.ntmps95
  go_wp2
  go_loopw [9] (fun t wr => ∃ k : Nat, k ≤ n ∧ t = .int .i64 k ∧ (∀ j x, j < k → l[j]? = some x → 0 ≤ x ∧ x ≤ most) ∧ ∃ q, wr = w.drewN q) (fun t _ => n - (RowKit.intOf t).toNat)
  case atStart => exact ⟨0, Nat.zero_le _, rfl, fun j x hj => absurd hj (by omega), 0, rfl⟩
  case round =>
    obtain ⟨k, hk, rfl, hz, q, rfl⟩ := hrel
    have HZ := Lib.hid hz
    clear hz
    by_cases hlt : k < n
    · obtain ⟨x, hx⟩ : ∃ x, l[k]? = some x := ⟨_, List.getElem?_eq_getElem (by have := HL.out; omega)⟩
      have hc : w.cell? ⟨b, k, none⟩ = some (.int .i64 x) := by have := H.out.2 k x hx; rwa [Nat.zero_add] at this
      have HX := Lib.hid hx
      have hk0 : (0 : Int) ≤ k := by omega
      have hk1 : (k : Int) < n := by omega
      clear hx
      by_cases h0 : 0 ≤ x ∧ x ≤ most
      · obtain ⟨g1, g2⟩ := h0
        go_wp2_with fail
        go_roundw
        case rel =>
          refine ⟨k + 1, by omega, by go_num, fun j y hj hy => ?_, q, rfl⟩
          rcases Nat.lt_or_ge j k with h | h
          · exact HZ.out j y h hy
          · obtain rfl : j = k := by omega
            rw [HX.out] at hy
            injection hy with hy
            rw [← hy]; exact ⟨g1, g2⟩
        case measure => simp [RowKit.intOf]; omega
      · have HV : Hid (withinL most l = false) := by
          unfold Hid withinL
          rw [List.all_eq_false]
          exact ⟨x, List.mem_of_getElem? HX.out, by simp; omega⟩
        have h1 : x < 0 ∨ most < x := by omega
        clear h0
        rcases h1 with h1 | h1
        all_goals
          go_wp2_with fail
          all_goals go_ret
          all_goals exact ⟨ret_bool HV.out.symm, q, rfl⟩
    · have HV : Hid (withinL most l = true) := by
        unfold Hid withinL
        rw [List.all_eq_true]
        intro x hx
        obtain ⟨j, hj⟩ := List.mem_iff_getElem?.1 hx
        have := HZ.out j x (by have := (List.getElem?_eq_some_iff.1 hj).1; have := HL.out; omega) hj
        simp [this]
      go_wp2_with fail
      go_ret
      exact ⟨ret_bool HV.out.symm, q, rfl⟩

def smallL (l : List Int) : List UInt8 := l.flatMap u32L
theorem u32L_len (n : Int) : (u32L n).length ≤ 4 := by unfold u32L; split <;> simp [layL_len]
theorem smallL_step {l : List Int} {k : Nat} {x : Int} (h : l[k]? = some x) : smallL (l.take (k + 1)) = smallL (l.take k) ++ u32L x := by
  unfold smallL; rw [List.take_add_one, h]; simp
theorem smallL_len (l : List Int) : (smallL l).length ≤ 4 * l.length := by
  unfold smallL
  induction l with
  | nil => simp
  | cons x r ih => rw [List.flatMap_cons, List.length_append, List.length_cons]; have := u32L_len x; omega
theorem small_any (b n c : Nat) (l : List Int) (w : World) (hl : l.length = n) (hn : n ≤ 100) (h : IntsAt w b 0 l) :
    Calls Tryz.prog 96 #[.slice (some ⟨b, 0, none⟩) n c] w fun e w' => e = .returned (str (smallL l)) ∧ Below w.heap.size w w' := by
  have H := Lib.hid h
  have HL := Lib.hid hl
  clear h hl
  go_enter Tryz.func96, Tryz.ntmps96
  go_wp2
  go_loopw [3, 8] (fun s t wr => ∃ k : Nat, k ≤ n ∧ t = .int .i64 k ∧ s = str (smallL (l.take k)) ∧ Below w.heap.size w wr) (fun _ t _ => n - (RowKit.intOf t).toNat)
  case atStart => exact ⟨0, Nat.zero_le _, rfl, rfl, Below.refl _ _⟩
  case round =>
    obtain ⟨k, hk, rfl, rfl, hb⟩ := hrel
    by_cases hlt : k < n
    · obtain ⟨x, hx⟩ : ∃ x, l[k]? = some x := ⟨_, List.getElem?_eq_getElem (by have := HL.out; omega)⟩
      have hc : wr.cell? ⟨b, k, none⟩ = some (.int .i64 x) := by have := (H.out.below hb (Nat.le_refl _)).2 k x hx; rwa [Nat.zero_add] at this
      have HS := Lib.hid (smallL_step hx)
      have hk0 : (0 : Int) ≤ k := by omega
      have hk1 : (k : Int) < n := by omega
      have hsl : (smallL (l.take k)).length ≤ 400 := by
        have := smallL_len (l.take k)
        have h2 : (l.take k).length ≤ k := List.length_take_le _ _
        omega
      have hul := u32L_len x
      clear hx
      generalize smallL (l.take k) = s at *
      go_wp2_with fail
      refine (u32_any x _).mono ?_
      rintro e w2 ⟨rfl, hb2⟩
      generalize u32L x = u at *
      go_wp2_with fail
      go_roundw
      case rel => exact ⟨k + 1, by omega, by go_num, by rw [HS.out]; exact congrArg Value.string (ByteArray.mk_append_mk s u), hb.trans (hb2.mono hb.size)⟩
      case measure => simp [RowKit.intOf]; omega
    · have HV : Hid (l.take k = l) := Lib.hid (List.take_of_length_le (by have := HL.out; omega))
      rw [HV.out]
      go_wp2_with fail
      go_ret
      exact ⟨rfl, hb⟩

def sumL (s : List Nat) : List UInt8 := s.flatMap fun x => layL x 8
theorem sumL_len (s : List Nat) : (sumL s).length = 8 * s.length := by
  unfold sumL
  induction s with
  | nil => rfl
  | cons x r ih => rw [List.flatMap_cons, List.length_append, List.length_cons, ih, layL_len]; omega
theorem fbytes_any (s0 s1 s2 s3 : Nat) (w : World) (h0 : s0 < 18446744073709551616) (h1 : s1 < 18446744073709551616) (h2 : s2 < 18446744073709551616) (h3 : s3 < 18446744073709551616) :
    Calls Tryz.prog 27 #[.agg #[.int .u64 s0, .int .u64 s1, .int .u64 s2, .int .u64 s3]] w fun e w' => e = .returned (str (sumL [s0, s1, s2, s3])) ∧ Below w.heap.size w w' := by
  have H0 := Lib.hid fun W => u64_any s0 W h0
  have H1 := Lib.hid fun W => u64_any s1 W h1
  have H2 := Lib.hid fun W => u64_any s2 W h2
  have H3 := Lib.hid fun W => u64_any s3 W h3
  have i0 : ∀ w, (Instr.index 29 (.agg #[.int .u64 s0, .int .u64 s1, .int .u64 s2, .int .u64 s3]) (.int .i64 0)).run Tryz.prog w = .ok (.int .u64 s0) w := fun _ => by kernel_rfl
  have i1 : ∀ w, (Instr.index 29 (.agg #[.int .u64 s0, .int .u64 s1, .int .u64 s2, .int .u64 s3]) (.int .i64 1)).run Tryz.prog w = .ok (.int .u64 s1) w := fun _ => by kernel_rfl
  have i2 : ∀ w, (Instr.index 29 (.agg #[.int .u64 s0, .int .u64 s1, .int .u64 s2, .int .u64 s3]) (.int .i64 2)).run Tryz.prog w = .ok (.int .u64 s2) w := fun _ => by kernel_rfl
  have i3 : ∀ w, (Instr.index 29 (.agg #[.int .u64 s0, .int .u64 s1, .int .u64 s2, .int .u64 s3]) (.int .i64 3)).run Tryz.prog w = .ok (.int .u64 s3) w := fun _ => by kernel_rfl
  clear h0 h1 h2 h3
  go_enter Tryz.func27, Tryz.ntmps27
  go_wp2_with fail
  go_loopw [3, 7] (fun s t wr => ∃ k : Nat, k ≤ 4 ∧ t = .int .i64 k ∧ s = str (sumL ([s0, s1, s2, s3].take k)) ∧ Below w.heap.size w wr) (fun _ t _ => 4 - (RowKit.intOf t).toNat)
  case atStart => exact ⟨0, by omega, rfl, rfl, (Below.refl _ _).alloc (Nat.le_refl _) _⟩
  case round =>
    obtain ⟨k, hk, rfl, rfl, hb⟩ := hrel
    have hk4 : k = 0 ∨ k = 1 ∨ k = 2 ∨ k = 3 ∨ k = 4 := by omega
    have hlen : (sumL ([s0, s1, s2, s3].take k)).length ≤ 32 := by rw [sumL_len, List.length_take]; simp; omega
    rcases hk4 with rfl | rfl | rfl | rfl | rfl
    · have HS : Hid (sumL ([s0, s1, s2, s3].take (0 + 1)) = sumL ([s0, s1, s2, s3].take 0) ++ layL s0 8) := by simp [Hid, sumL]
      generalize sumL ([s0, s1, s2, s3].take 0) = s at *
      go_wp2_with fail
      refine (H0.out _).mono ?_
      rintro e w2 ⟨rfl, hb2⟩
      have hll : (layL s0 8).length ≤ 8 := by rw [layL_len]; exact Nat.le_refl _
      generalize layL s0 8 = u at *
      go_wp2_with fail
      go_roundw
      case rel => exact ⟨0 + 1, by omega, rfl, by rw [HS.out]; exact congrArg Value.string (ByteArray.mk_append_mk s u), hb.trans (hb2.mono hb.size)⟩
      case measure => simp [RowKit.intOf]
    · have HS : Hid (sumL ([s0, s1, s2, s3].take (1 + 1)) = sumL ([s0, s1, s2, s3].take 1) ++ layL s1 8) := by simp [Hid, sumL]
      generalize sumL ([s0, s1, s2, s3].take 1) = s at *
      go_wp2_with fail
      refine (H1.out _).mono ?_
      rintro e w2 ⟨rfl, hb2⟩
      have hll : (layL s1 8).length ≤ 8 := by rw [layL_len]; exact Nat.le_refl _
      generalize layL s1 8 = u at *
      go_wp2_with fail
      go_roundw
      case rel => exact ⟨1 + 1, by omega, rfl, by rw [HS.out]; exact congrArg Value.string (ByteArray.mk_append_mk s u), hb.trans (hb2.mono hb.size)⟩
      case measure => simp [RowKit.intOf]
    · have HS : Hid (sumL ([s0, s1, s2, s3].take (2 + 1)) = sumL ([s0, s1, s2, s3].take 2) ++ layL s2 8) := by simp [Hid, sumL]
      generalize sumL ([s0, s1, s2, s3].take 2) = s at *
      go_wp2_with fail
      refine (H2.out _).mono ?_
      rintro e w2 ⟨rfl, hb2⟩
      have hll : (layL s2 8).length ≤ 8 := by rw [layL_len]; exact Nat.le_refl _
      generalize layL s2 8 = u at *
      go_wp2_with fail
      go_roundw
      case rel => exact ⟨2 + 1, by omega, rfl, by rw [HS.out]; exact congrArg Value.string (ByteArray.mk_append_mk s u), hb.trans (hb2.mono hb.size)⟩
      case measure => simp [RowKit.intOf]
    · have HS : Hid (sumL ([s0, s1, s2, s3].take (3 + 1)) = sumL ([s0, s1, s2, s3].take 3) ++ layL s3 8) := by simp [Hid, sumL]
      generalize sumL ([s0, s1, s2, s3].take 3) = s at *
      go_wp2_with fail
      refine (H3.out _).mono ?_
      rintro e w2 ⟨rfl, hb2⟩
      have hll : (layL s3 8).length ≤ 8 := by rw [layL_len]; exact Nat.le_refl _
      generalize layL s3 8 = u at *
      go_wp2_with fail
      go_roundw
      case rel => exact ⟨3 + 1, by omega, rfl, by rw [HS.out]; exact congrArg Value.string (ByteArray.mk_append_mk s u), hb.trans (hb2.mono hb.size)⟩
      case measure => simp [RowKit.intOf]
    · go_wp2_with fail
      go_ret
      exact ⟨rfl, hb⟩
end Go.Proofs.YtlpbbjjibnbooaaGreatDoor

namespace Go.Proofs.YtlpbbjjibnbooaaGreatDoor
open Go.RowKit
set_option linter.unusedVariables false

/-- A pointer's numbers. -/
structure PtrD where
  ag : Int
  aa : Int
  bg : Int
  ba : Int
  two : Bool
  size : Int
  level : Int
  birth : Int
  s0 : Nat
  s1 : Nat
  s2 : Nat
  s3 : Nat
deriving DecidableEq

def PtrD.cells (p : PtrD) : Array Value := #[.int .i64 p.ag, .int .i64 p.aa, .int .i64 p.bg, .int .i64 p.ba, .bool p.two, .int .i64 p.size, .int .i64 p.level, .int .i64 p.birth, .int .u64 p.s0, .int .u64 p.s1, .int .u64 p.s2, .int .u64 p.s3]
def PtrD.Ok (p : PtrD) : Prop := p.s0 < 18446744073709551616 ∧ p.s1 < 18446744073709551616 ∧ p.s2 < 18446744073709551616 ∧ p.s3 < 18446744073709551616 ∧
  -9223372036854775808 ≤ p.size ∧ p.size ≤ 9223372036854775807 ∧ -9223372036854775808 ≤ p.level ∧ p.level ≤ 9223372036854775807 ∧ -9223372036854775808 ≤ p.birth ∧ p.birth ≤ 9223372036854775807

/-- p lies at block b from offset o on. -/
def PtrAt (w : World) (b o : Nat) (p : PtrD) : Prop :=
  w.cell? ⟨b, o, none⟩ = some (.int .i64 p.ag) ∧ w.cell? ⟨b, o + 1, none⟩ = some (.int .i64 p.aa) ∧ w.cell? ⟨b, o + 2, none⟩ = some (.int .i64 p.bg) ∧ w.cell? ⟨b, o + 3, none⟩ = some (.int .i64 p.ba) ∧
  w.cell? ⟨b, o + 4, none⟩ = some (.bool p.two) ∧ w.cell? ⟨b, o + 5, none⟩ = some (.int .i64 p.size) ∧ w.cell? ⟨b, o + 6, none⟩ = some (.int .i64 p.level) ∧ w.cell? ⟨b, o + 7, none⟩ = some (.int .i64 p.birth) ∧
  w.cell? ⟨b, o + 8, none⟩ = some (.int .u64 p.s0) ∧ w.cell? ⟨b, o + 9, none⟩ = some (.int .u64 p.s1) ∧ w.cell? ⟨b, o + 10, none⟩ = some (.int .u64 p.s2) ∧ w.cell? ⟨b, o + 11, none⟩ = some (.int .u64 p.s3)
theorem PtrAt.keep {w w' : World} {b o : Nat} {p : PtrD} (h : PtrAt w b o p) (hb : Below w.heap.size w w') (hlt : b < w.heap.size) : PtrAt w' b o p := by
  obtain ⟨h0, h1, h2, h3, h4, h5, h6, h7, h8, h9, ha, hc⟩ := h
  exact ⟨keep_cell hb h0 hlt, keep_cell hb h1 hlt, keep_cell hb h2 hlt, keep_cell hb h3 hlt, keep_cell hb h4 hlt, keep_cell hb h5 hlt, keep_cell hb h6 hlt, keep_cell hb h7 hlt, keep_cell hb h8 hlt, keep_cell hb h9 hlt, keep_cell hb ha hlt, keep_cell hb hc hlt⟩
theorem PtrAt.new (w : World) (p : PtrD) (t : TypeId) : PtrAt (w.alloc (.cells p.cells t)) w.heap.size 0 p :=
  ⟨cell_new rfl rfl, cell_new rfl rfl, cell_new rfl rfl, cell_new rfl rfl, cell_new rfl rfl, cell_new rfl rfl, cell_new rfl rfl, cell_new rfl rfl, cell_new rfl rfl, cell_new rfl rfl, cell_new rfl rfl, cell_new rfl rfl⟩

end Go.Proofs.YtlpbbjjibnbooaaGreatDoor

namespace Go.Proofs.YtlpbbjjibnbooaaGreatDoor
open Go.RowKit
set_option linter.unusedVariables false

theorem Tryz.stoodPlace : Tryz.prog.stoodInHeld 26 = false := by kernel_rfl
theorem Tryz.stoodPtr : Tryz.prog.stoodInHeld 31 = false := by kernel_rfl

theorem eqIn_place (w : World) (d : Nat) (a b c e : Int) : (Op.equalIn (d + 2) 26 (.agg #[.int .i64 a, .int .i64 b]) (.agg #[.int .i64 c, .int .i64 e])).run Tryz.prog w = .ok (a == c && b == e) w := by
  rw [run_equalIn_struct w (d + 1) _ _ _ (by kernel_rfl) Tryz.stoodPlace]
  simp [go_sem, Tryz.underlying26]
  by_cases h1 : a = c <;> by_cases h2 : b = e <;> simp [h1, h2]

theorem eqIn_sum (w : World) (d : Nat) (a0 a1 a2 a3 b0 b1 b2 b3 : Nat) : (Op.equalIn (d + 2) 29 (.agg #[.int .u64 a0, .int .u64 a1, .int .u64 a2, .int .u64 a3]) (.agg #[.int .u64 b0, .int .u64 b1, .int .u64 b2, .int .u64 b3])).run Tryz.prog w =
    .ok ((a0 : Int) == b0 && ((a1 : Int) == b1 && ((a2 : Int) == b2 && (a3 : Int) == b3))) w := by
  rw [Op.equalIn]
  simp only [Sem.run_bind, run_underlying Tryz.underlying29, Result.andThen_ok]
  simp [go_sem, Tryz.sizeOf27, Std.Legacy.Range.forIn_eq_forIn_range', Std.Legacy.Range.size, List.range']
  repeat' split
  all_goals (congr 1; simp_all)

def ptrEq (p q : PtrD) : Bool := decide (p = q)
theorem eql_ptr (p q : PtrD) (w : World) : (binOp .eql 31 (.agg p.cells) (.agg q.cells)).run Tryz.prog w = .ok (.bool (ptrEq p q)) w := by
  obtain ⟨a1, a2, a3, a4, a5, a6, a7, a8, a9, aa, ab, ac⟩ := p
  obtain ⟨b1, b2, b3, b4, b5, b6, b7, b8, b9, ba, bb, bc⟩ := q
  rw [run_eql_struct, run_equalIn_struct w 9999 _ _ _ (by kernel_rfl) Tryz.stoodPtr]
  simp [go_sem, Tryz.underlying31, eqIn_place, eqIn_sum, PtrD.cells, ptrEq]
  repeat' split
  all_goals (congr 2; try simp_all)
  all_goals grind
theorem eql_place (a b c e : Int) (w : World) : (binOp .eql 26 (.agg #[.int .i64 a, .int .i64 b]) (.agg #[.int .i64 c, .int .i64 e])).run Tryz.prog w = .ok (.bool (a == c && b == e)) w := by
  rw [run_eql_struct, run_equalIn_struct w 9999 _ _ _ (by kernel_rfl) Tryz.stoodPlace]
  simp [go_sem, Tryz.underlying26]
  by_cases h1 : a = c <;> by_cases h2 : b = e <;> simp [h1, h2]
end Go.Proofs.YtlpbbjjibnbooaaGreatDoor

namespace Go.Proofs.YtlpbbjjibnbooaaGreatDoor
open Go.RowKit
set_option linter.unusedVariables false

def ptrZ : PtrD := ⟨0, 0, 0, 0, false, 0, 0, 0, 0, 0, 0, 0⟩
/-- All of it is zero. -/
def noneB (p : PtrD) : Bool := ptrEq p ptrZ
set_option maxRecDepth 100000 in
theorem none_any (p : PtrD) (w : World) :
    Calls Tryz.prog 74 #[.agg p.cells] w fun e w' => e = .returned (.bool (noneB p)) ∧ Below w.heap.size w w' := by
  have h := PtrAt.new w p 31
  obtain ⟨h0, h1, h2, h3, h4, h5, h6, h7, h8, h9, ha, hc⟩ := h
  simp only [Nat.zero_add] at h1 h2 h3 h4 h5 h6 h7 h8 h9 ha hc
  have he : ∀ W, (binOp .eql 31 (.agg #[.int .i64 p.ag, .int .i64 p.aa, .int .i64 p.bg, .int .i64 p.ba, .bool p.two, .int .i64 p.size, .int .i64 p.level, .int .i64 p.birth, .int .u64 p.s0, .int .u64 p.s1, .int .u64 p.s2, .int .u64 p.s3])
      (.agg #[.int .i64 0, .int .i64 0, .int .i64 0, .int .i64 0, .bool false, .int .i64 0, .int .i64 0, .int .i64 0, .int .u64 0, .int .u64 0, .int .u64 0, .int .u64 0])).run Tryz.prog W = .ok (.bool (noneB p)) W := fun W => eql_ptr p ptrZ W
  have hb := (Below.refl w.heap.size w).alloc (Nat.le_refl _) (.cells p.cells 31)
  go_enter Tryz.func74, Tryz.ntmps74
  go_wp2_with fail
  go_ret
  exact ⟨rfl, hb⟩
/-- Whether a pointer can be laid; its bytes. -/
def layOk (p : PtrD) : Bool := withinL 4294967295 [p.ag, p.aa, p.bg, p.ba, p.birth] && withinL 255 [p.size, p.level]
def ptrOne (p : PtrD) : Int := p.size + p.level * 256 + if p.two then 65536 else 0
def ptrL (p : PtrD) : List UInt8 := padL (smallL [p.ag, p.aa, p.bg, p.ba, ptrOne p, p.birth] ++ sumL [p.s0, p.s1, p.s2, p.s3]) 64

set_option maxRecDepth 100000 in
set_option maxHeartbeats 8000000 in
theorem pbytes_any (p : PtrD) (w : World) (hok : p.Ok) :
    Calls Tryz.prog 62 #[.agg p.cells] w fun e w' => e = .returned (.tuple #[str (if layOk p then ptrL p else []), .int .i64 (if layOk p then 0 else 1)]) ∧ Below w.heap.size w w' := by
  have h := PtrAt.new w p 31
  obtain ⟨h0, h1, h2, h3, h4, h5, h6, h7, h8, h9, ha, hc⟩ := h
  simp only [Nat.zero_add] at h1 h2 h3 h4 h5 h6 h7 h8 h9 ha hc
  have hb := (Below.refl w.heap.size w).alloc (Nat.le_refl _) (.cells p.cells 31)
  have hs : w.heap.size < (w.alloc (.cells p.cells 31)).heap.size := by simp
  have HL : Hid (layOk p = (withinL 4294967295 [p.ag, p.aa, p.bg, p.ba, p.birth] && withinL 255 [p.size, p.level])) := Lib.hid rfl
  obtain ⟨g0, g1, g2, g3, g4, g5, g6, g7, g8, g9⟩ := hok
  have HI1 : Hid (IntsAt ((w.alloc (.cells p.cells 31)).alloc (.cells #[.int .i64 p.ag, .int .i64 p.aa, .int .i64 p.bg, .int .i64 p.ba, .int .i64 p.birth] 3)) (w.heap.size + 1) 0 [p.ag, p.aa, p.bg, p.ba, p.birth]) := by
    have := IntsAt.new (w.alloc (.cells p.cells 31)) [p.ag, p.aa, p.bg, p.ba, p.birth] 3
    rw [World.size_alloc] at this
    exact this
  have hb1 := hb.alloc hb.size (.cells #[.int .i64 p.ag, .int .i64 p.aa, .int .i64 p.bg, .int .i64 p.ba, .int .i64 p.birth] 3)
  have HP : Hid (PtrAt ((w.alloc (.cells p.cells 31)).alloc (.cells #[.int .i64 p.ag, .int .i64 p.aa, .int .i64 p.bg, .int .i64 p.ba, .int .i64 p.birth] 3)) w.heap.size 0 p) :=
    Lib.hid ((PtrAt.new w p 31).keep ((Below.refl _ _).alloc (Nat.le_refl _) _) hs)
  cases hc1 : withinL 4294967295 [p.ag, p.aa, p.bg, p.ba, p.birth] with
  | true =>
    have HC1 := Lib.hid hc1
    clear hc1
    go_enter Tryz.func62, Tryz.ntmps62
    go_wp2_with fail
    refine (within_any 4294967295 (w.heap.size + 1) 5 5 [p.ag, p.aa, p.bg, p.ba, p.birth] _ rfl (by omega) HI1.out).mono ?_
    rintro e w2 ⟨rfl, k, rfl⟩
    rw [HC1.out]
    have hP2 : PtrAt (((w.alloc (.cells p.cells 31)).alloc (.cells #[.int .i64 p.ag, .int .i64 p.aa, .int .i64 p.bg, .int .i64 p.ba, .int .i64 p.birth] 3)).drewN k) w.heap.size 0 p := HP.out
    have hb2 := below_drewN hb1 k
    have hs2 : w.heap.size < (((w.alloc (.cells p.cells 31)).alloc (.cells #[.int .i64 p.ag, .int .i64 p.aa, .int .i64 p.bg, .int .i64 p.ba, .int .i64 p.birth] 3)).drewN k).heap.size := by simp; omega
    clear h0 h1 h2 h3 h4 h5 h6 h7 h8 h9 ha hc hb hs hb1 HI1 HP
    generalize (((w.alloc (.cells p.cells 31)).alloc (.cells #[.int .i64 p.ag, .int .i64 p.aa, .int .i64 p.bg, .int .i64 p.ba, .int .i64 p.birth] 3)).drewN k) = w2 at *
    have HP2 := Lib.hid hP2
    obtain ⟨h0, h1, h2, h3, h4, h5, h6, h7, h8, h9, ha, hc⟩ := hP2
    simp only [Nat.zero_add] at h1 h2 h3 h4 h5 h6 h7 h8 h9 ha hc
    have HI2 : Hid (IntsAt (w2.alloc (.cells #[.int .i64 p.size, .int .i64 p.level] 3)) w2.heap.size 0 [p.size, p.level]) := Lib.hid (IntsAt.new w2 [p.size, p.level] 3)
    have hb3 := hb2.alloc hb2.size (.cells #[.int .i64 p.size, .int .i64 p.level] 3)
    have HP3 := Lib.hid (HP2.out.keep ((Below.refl _ _).alloc (Nat.le_refl _) (.cells #[.int .i64 p.size, .int .i64 p.level] 3)) hs2)
    cases hc2 : withinL 255 [p.size, p.level] with
    | true =>
      have HLT : Hid (layOk p = true) := by unfold Hid; rw [HL.out, HC1.out, hc2]; rfl
      have HC2 := Lib.hid hc2
      clear hc2 HL
      go_wp2_with fail
      refine (within_any 255 w2.heap.size 2 2 [p.size, p.level] _ rfl (by omega) HI2.out).mono ?_
      rintro e w3 ⟨rfl, k3, rfl⟩
      rw [HC2.out]
      have hP3 : PtrAt ((w2.alloc (.cells #[.int .i64 p.size, .int .i64 p.level] 3)).drewN k3) w.heap.size 0 p := HP3.out
      have hb4 := below_drewN hb3 k3
      have hs4 : w.heap.size < ((w2.alloc (.cells #[.int .i64 p.size, .int .i64 p.level] 3)).drewN k3).heap.size := by simp; omega
      clear h0 h1 h2 h3 h4 h5 h6 h7 h8 h9 ha hc hb2 hb3 HI2 HP2 HP3
      obtain ⟨w4, hw4⟩ : ∃ x, x = ((w2.alloc (.cells #[.int .i64 p.size, .int .i64 p.level] 3)).drewN k3) := ⟨_, rfl⟩
      rw [← hw4] at hP3 hb4 hs4 ⊢
      clear hw4
      have HP4 := Lib.hid hP3
      obtain ⟨h0, h1, h2, h3, h4, h5, h6, h7, h8, h9, ha, hc⟩ := hP3
      simp only [Nat.zero_add] at h1 h2 h3 h4 h5 h6 h7 h8 h9 ha hc
      have hsz : 0 ≤ p.size ∧ p.size ≤ 255 ∧ 0 ≤ p.level ∧ p.level ≤ 255 := by
        have := HC2.out
        simp [withinL] at this
        omega
      obtain ⟨q1, q2, q3, q4⟩ := hsz
      have HO : Hid (ptrOne p = p.size + p.level * 256 + if p.two then 65536 else 0) := Lib.hid rfl
      cases htwo : p.two with
      | true =>
        rw [htwo] at h4 HO
        have HO2 : Hid (ptrOne p = p.size + p.level * 256 + 65536) := by unfold Hid; rw [HO.out]; simp
        have HIS : IntsAt (w4.alloc (.cells #[.int .i64 p.ag, .int .i64 p.aa, .int .i64 p.bg, .int .i64 p.ba, .int .i64 (p.size + p.level * 256 + 65536), .int .i64 p.birth] 3)).drew w4.heap.size 0 [p.ag, p.aa, p.bg, p.ba, p.size + p.level * 256 + 65536, p.birth] := IntsAt.new w4 [p.ag, p.aa, p.bg, p.ba, p.size + p.level * 256 + 65536, p.birth] 3
        have HSM := Lib.hid (small_any w4.heap.size 6 6 [p.ag, p.aa, p.bg, p.ba, p.size + p.level * 256 + 65536, p.birth] _ rfl (by omega) HIS)
        have HFB := Lib.hid fun W => fbytes_any p.s0 p.s1 p.s2 p.s3 W g0 g1 g2 g3
        have hsa : (smallL [p.ag, p.aa, p.bg, p.ba, p.size + p.level * 256 + 65536, p.birth]).length ≤ 24 := smallL_len [p.ag, p.aa, p.bg, p.ba, p.size + p.level * 256 + 65536, p.birth]
        have hsb : (sumL [p.s0, p.s1, p.s2, p.s3]).length ≤ 32 := Nat.le_of_eq (sumL_len [p.s0, p.s1, p.s2, p.s3])
        have HPL : Hid (ptrL p = padL (smallL [p.ag, p.aa, p.bg, p.ba, p.size + p.level * 256 + 65536, p.birth] ++ sumL [p.s0, p.s1, p.s2, p.s3]) 64) := by unfold Hid ptrL; rw [HO2.out]
        generalize smallL [p.ag, p.aa, p.bg, p.ba, p.size + p.level * 256 + 65536, p.birth] = sa at HSM hsa HPL
        generalize sumL [p.s0, p.s1, p.s2, p.s3] = sb at HFB hsb HPL
        have hcc : ¬ 9223372036854775807 < (ByteArray.mk sa.toArray).size + (ByteArray.mk sb.toArray).size := by simp [ByteArray.size]; omega
        have hcd : ¬ 9223372036854775807 < sa.length + sb.length := by omega
        have HPA := Lib.hid fun W => pad_any (sa ++ sb) 64 W (by rw [List.length_append]; omega)
        clear HIS HO2
        clear htwo HO g0 g1 g2 g3 g4 g5 g6 g7 g8 g9
        go_wp2_with fail
        go_region_held3 (fun W => W.cell? ⟨w.heap.size, 0, none⟩ = some (.int .i64 p.ag) ∧ W.cell? ⟨w.heap.size, 1, none⟩ = some (.int .i64 p.aa) ∧ W.cell? ⟨w.heap.size, 2, none⟩ = some (.int .i64 p.bg) ∧ W.cell? ⟨w.heap.size, 3, none⟩ = some (.int .i64 p.ba) ∧
            W.cell? ⟨w.heap.size, 7, none⟩ = some (.int .i64 p.birth) ∧ W.cell? ⟨w.heap.size, 8, none⟩ = some (.int .u64 p.s0) ∧ W.cell? ⟨w.heap.size, 9, none⟩ = some (.int .u64 p.s1) ∧ W.cell? ⟨w.heap.size, 10, none⟩ = some (.int .u64 p.s2) ∧ W.cell? ⟨w.heap.size, 11, none⟩ = some (.int .u64 p.s3) ∧ Below w4.heap.size w4 W)
          (first
            | exact ⟨h0, h1, h2, h3, h7, h8, h9, ha, hc, (Below.refl _ _).drew⟩
            | exact ‹_ ∧ _ ∧ _ ∧ _ ∧ _ ∧ _ ∧ _ ∧ _ ∧ _ ∧ Below w4.heap.size w4 _›
            | (obtain ⟨t0, t1, t2, t3, t4, t5, t6, t7, t8, t9⟩ := ‹_ ∧ _ ∧ _ ∧ _ ∧ _ ∧ _ ∧ _ ∧ _ ∧ _ ∧ Below w4.heap.size w4 _›; exact ⟨cell_alloc t0 _, cell_alloc t1 _, cell_alloc t2 _, cell_alloc t3 _, cell_alloc t4 _, cell_alloc t5 _, cell_alloc t6 _, cell_alloc t7 _, cell_alloc t8 _, t9.alloc t9.size _⟩)
            | (obtain ⟨t0, t1, t2, t3, t4, t5, t6, t7, t8, t9⟩ := ‹_ ∧ _ ∧ _ ∧ _ ∧ _ ∧ _ ∧ _ ∧ _ ∧ _ ∧ Below w4.heap.size w4 _›; have hq := Nat.lt_of_lt_of_le hs4 t9.size; exact ⟨keep_cell hbc t0 hq, keep_cell hbc t1 hq, keep_cell hbc t2 hq, keep_cell hbc t3 hq, keep_cell hbc t4 hq, keep_cell hbc t5 hq, keep_cell hbc t6 hq, keep_cell hbc t7 hq, keep_cell hbc t8 hq, t9.trans (hbc.mono t9.size)⟩))
          (first
            | (go_at_call 96; refine HSM.out.mono ?_; rintro e wc ⟨rfl, hbc⟩)
            | (go_at_call 27; refine (HFB.out _).mono ?_; rintro e wc ⟨rfl, hbc⟩)
            | (go_at_call 25; rw [ByteArray.mk_append_mk]; refine (HPA.out _).mono ?_; rintro e wc ⟨rfl, hbc⟩))
        obtain ⟨t0, t1, t2, t3, t4, t5, t6, t7, t8, t9⟩ := ‹_ ∧ _ ∧ _ ∧ _ ∧ _ ∧ _ ∧ _ ∧ _ ∧ _ ∧ Below w4.heap.size w4 _›
        have hl := HLT.out
        go_wp2_with fail
        go_ret2
        exact ⟨by rw [HPL.out]; rfl, hb4.trans (t9.mono hb4.size)⟩
      | false =>
        rw [htwo] at h4 HO
        have HO2 : Hid (ptrOne p = p.size + p.level * 256) := by unfold Hid; rw [HO.out]; simp
        have HIS : IntsAt (w4.alloc (.cells #[.int .i64 p.ag, .int .i64 p.aa, .int .i64 p.bg, .int .i64 p.ba, .int .i64 (p.size + p.level * 256), .int .i64 p.birth] 3)).drew w4.heap.size 0 [p.ag, p.aa, p.bg, p.ba, p.size + p.level * 256, p.birth] := IntsAt.new w4 [p.ag, p.aa, p.bg, p.ba, p.size + p.level * 256, p.birth] 3
        have HSM := Lib.hid (small_any w4.heap.size 6 6 [p.ag, p.aa, p.bg, p.ba, p.size + p.level * 256, p.birth] _ rfl (by omega) HIS)
        have HFB := Lib.hid fun W => fbytes_any p.s0 p.s1 p.s2 p.s3 W g0 g1 g2 g3
        have hsa : (smallL [p.ag, p.aa, p.bg, p.ba, p.size + p.level * 256, p.birth]).length ≤ 24 := smallL_len [p.ag, p.aa, p.bg, p.ba, p.size + p.level * 256, p.birth]
        have hsb : (sumL [p.s0, p.s1, p.s2, p.s3]).length ≤ 32 := Nat.le_of_eq (sumL_len [p.s0, p.s1, p.s2, p.s3])
        have HPL : Hid (ptrL p = padL (smallL [p.ag, p.aa, p.bg, p.ba, p.size + p.level * 256, p.birth] ++ sumL [p.s0, p.s1, p.s2, p.s3]) 64) := by unfold Hid ptrL; rw [HO2.out]
        generalize smallL [p.ag, p.aa, p.bg, p.ba, p.size + p.level * 256, p.birth] = sa at HSM hsa HPL
        generalize sumL [p.s0, p.s1, p.s2, p.s3] = sb at HFB hsb HPL
        have hcc : ¬ 9223372036854775807 < (ByteArray.mk sa.toArray).size + (ByteArray.mk sb.toArray).size := by simp [ByteArray.size]; omega
        have hcd : ¬ 9223372036854775807 < sa.length + sb.length := by omega
        have HPA := Lib.hid fun W => pad_any (sa ++ sb) 64 W (by rw [List.length_append]; omega)
        clear HIS HO2
        clear htwo HO g0 g1 g2 g3 g4 g5 g6 g7 g8 g9
        go_wp2_with fail
        go_region_held3 (fun W => W.cell? ⟨w.heap.size, 0, none⟩ = some (.int .i64 p.ag) ∧ W.cell? ⟨w.heap.size, 1, none⟩ = some (.int .i64 p.aa) ∧ W.cell? ⟨w.heap.size, 2, none⟩ = some (.int .i64 p.bg) ∧ W.cell? ⟨w.heap.size, 3, none⟩ = some (.int .i64 p.ba) ∧
            W.cell? ⟨w.heap.size, 7, none⟩ = some (.int .i64 p.birth) ∧ W.cell? ⟨w.heap.size, 8, none⟩ = some (.int .u64 p.s0) ∧ W.cell? ⟨w.heap.size, 9, none⟩ = some (.int .u64 p.s1) ∧ W.cell? ⟨w.heap.size, 10, none⟩ = some (.int .u64 p.s2) ∧ W.cell? ⟨w.heap.size, 11, none⟩ = some (.int .u64 p.s3) ∧ Below w4.heap.size w4 W)
          (first
            | exact ⟨h0, h1, h2, h3, h7, h8, h9, ha, hc, (Below.refl _ _).drew⟩
            | exact ‹_ ∧ _ ∧ _ ∧ _ ∧ _ ∧ _ ∧ _ ∧ _ ∧ _ ∧ Below w4.heap.size w4 _›
            | (obtain ⟨t0, t1, t2, t3, t4, t5, t6, t7, t8, t9⟩ := ‹_ ∧ _ ∧ _ ∧ _ ∧ _ ∧ _ ∧ _ ∧ _ ∧ _ ∧ Below w4.heap.size w4 _›; exact ⟨cell_alloc t0 _, cell_alloc t1 _, cell_alloc t2 _, cell_alloc t3 _, cell_alloc t4 _, cell_alloc t5 _, cell_alloc t6 _, cell_alloc t7 _, cell_alloc t8 _, t9.alloc t9.size _⟩)
            | (obtain ⟨t0, t1, t2, t3, t4, t5, t6, t7, t8, t9⟩ := ‹_ ∧ _ ∧ _ ∧ _ ∧ _ ∧ _ ∧ _ ∧ _ ∧ _ ∧ Below w4.heap.size w4 _›; have hq := Nat.lt_of_lt_of_le hs4 t9.size; exact ⟨keep_cell hbc t0 hq, keep_cell hbc t1 hq, keep_cell hbc t2 hq, keep_cell hbc t3 hq, keep_cell hbc t4 hq, keep_cell hbc t5 hq, keep_cell hbc t6 hq, keep_cell hbc t7 hq, keep_cell hbc t8 hq, t9.trans (hbc.mono t9.size)⟩))
          (first
            | (go_at_call 96; refine HSM.out.mono ?_; rintro e wc ⟨rfl, hbc⟩)
            | (go_at_call 27; refine (HFB.out _).mono ?_; rintro e wc ⟨rfl, hbc⟩)
            | (go_at_call 25; rw [ByteArray.mk_append_mk]; refine (HPA.out _).mono ?_; rintro e wc ⟨rfl, hbc⟩))
        obtain ⟨t0, t1, t2, t3, t4, t5, t6, t7, t8, t9⟩ := ‹_ ∧ _ ∧ _ ∧ _ ∧ _ ∧ _ ∧ _ ∧ _ ∧ _ ∧ Below w4.heap.size w4 _›
        have hl := HLT.out
        go_wp2_with fail
        go_ret2
        exact ⟨by rw [HPL.out]; rfl, hb4.trans (t9.mono hb4.size)⟩
    | false =>
      have HLT : Hid (layOk p = false) := by unfold Hid; rw [HL.out, HC1.out, hc2]; rfl
      have HC2 := Lib.hid hc2
      clear hc2 HL
      go_wp2_with fail
      refine (within_any 255 w2.heap.size 2 2 [p.size, p.level] _ rfl (by omega) HI2.out).mono ?_
      rintro e w3 ⟨rfl, k3, rfl⟩
      rw [HC2.out]
      have hl := HLT.out
      go_wp2_with fail
      all_goals go_ret2
      all_goals exact ⟨rfl, below_drewN hb3 _⟩
  | false =>
    have HLT : Hid (layOk p = false) := by unfold Hid; rw [HL.out, hc1]; rfl
    have HC1 := Lib.hid hc1
    clear hc1 HL
    rw [HLT.out]
    go_enter Tryz.func62, Tryz.ntmps62
    go_wp2_with fail
    refine (within_any 4294967295 (w.heap.size + 1) 5 5 [p.ag, p.aa, p.bg, p.ba, p.birth] _ rfl (by omega) HI1.out).mono ?_
    rintro e w2 ⟨rfl, k, rfl⟩
    rw [HC1.out]
    go_wp2_with fail
    go_ret2
    exact ⟨rfl, below_drewN hb1 _⟩
end Go.Proofs.YtlpbbjjibnbooaaGreatDoor

namespace Go.Proofs.YtlpbbjjibnbooaaGreatDoor
open Go.RowKit
set_option linter.unusedVariables false

end Go.Proofs.YtlpbbjjibnbooaaGreatDoor

namespace Go.Proofs.YtlpbbjjibnbooaaGreatDoor
open Go.RowKit
set_option linter.unusedVariables false

theorem layL_ne {x n : Nat} (h : 0 < n) : layL x n ≠ [] := by
  intro e
  have := layL_len x n
  rw [e] at this
  simp at this; omega
end Go.Proofs.YtlpbbjjibnbooaaGreatDoor

namespace Go.Proofs.YtlpbbjjibnbooaaGreatDoor
open Go.RowKit
set_option linter.unusedVariables false

def gSectors (gs : List (Int × Int)) (secs g : Int) : Int := if gHas gs secs g then (if (grAt gs g).1 == 1 then (secs - 16) * (grAt gs g).2 else secs - 16) else 0
def gSum (gs : List (Int × Int)) : Int := (gs.map (·.2)).sum
def gDevs (gs : List (Int × Int)) (secs : Int) : Int := if gRight gs secs then gSum gs else 0
def gFirst (gs : List (Int × Int)) (secs g : Int) : Int := if gHas gs secs g then gSum (gs.take g.toNat) else 0

theorem mul_bd {a b : Int} (h1 : 0 ≤ a) (h2 : a ≤ 4096) (h3 : 1 ≤ b) (h4 : b ≤ 8) : 0 ≤ a * b ∧ a * b ≤ 32768 := by
  have : b = 1 ∨ b = 2 ∨ b = 3 ∨ b = 4 ∨ b = 5 ∨ b = 6 ∨ b = 7 ∨ b = 8 := by omega
  rcases this with rfl | rfl | rfl | rfl | rfl | rfl | rfl | rfl <;> omega

theorem sectors_any (A : Option Addr) (n c : Nat) (gs : List (Int × Int)) (secs g : Int) (w : World) (hg : GeoAt w A n gs) :
    Calls Tryz.prog 141 #[.agg #[.slice A n c, .int .i64 secs], .int .i64 g] w fun e w' => e = .returned (.int .i64 (gSectors gs secs g)) ∧ Below w.heap.size w w' := by
  have hb0 : Below w.heap.size w (w.alloc (Obj.cells #[Value.slice A n c, Value.int IntKind.i64 secs] 24)) := (Below.refl _ _).alloc (Nat.le_refl _) _
  have H := Lib.hid (has_any A n c gs secs g (w.alloc (Obj.cells #[Value.slice A n c, Value.int IntKind.i64 secs] 24)) (hg.below hb0 (Nat.le_refl _)))
  by_cases hh : gHas gs secs g = true
  · obtain ⟨k, x, rfl, hk, hl4, hs1, hs2, hx, hgx, ho⟩ := gHas_true hh
    have ho' := gOne_true ho
    obtain ⟨b, off, rfl, hgs⟩ := hg.2.2 (by have := hg.1; omega)
    have hl := hg.1
    have hkn : (k : Int) < n := by omega
    have HX := Lib.hid hx
    have HH := Lib.hid hh
    have ht : Hid (gSectors gs secs k = if x.1 == 1 then (secs - 16) * x.2 else secs - 16) := by unfold Hid gSectors; rw [hh, hgx]; rfl
    clear hx hgx hh hl hg
    obtain ⟨kd, wd⟩ := x
    have hm := mul_bd (a := secs - 16) (b := wd) (by omega) (by omega)
    rcases ho' with ⟨e, hw1, hw2⟩ | ⟨e, hw1, hw2⟩
    all_goals
      simp only at e hw1 hw2
      subst e
      have hm1 := (hm (by omega) hw2).1
      have hm2 := (hm (by omega) hw2).2
      clear hm
      go_enter Tryz.func141, Tryz.ntmps141
      go_wp2_with fail
      refine H.out.mono ?_
      rintro e w1 ⟨rfl, hb1⟩
      have hb2 := hb0.trans (hb1.mono (by simp))
      obtain ⟨hc1, hc2⟩ := (hgs.below hb2 (Nat.le_refl _)).2 k _ HX.out
      obtain ⟨hc, hf⟩ := bcell hb1
      have hh := HH.out
      have hsz := hb1.size
      simp at hsz
      go_wp2
      go_ret
      refine ⟨ret_int ?_, hb2.alloc (by omega) _⟩
      rw [ht.out]
      simp
  · have hh' : gHas gs secs g = false := by simpa using hh
    have ht : Hid (gSectors gs secs g = 0) := by unfold Hid gSectors; rw [hh']; rfl
    clear hg hh
    have HH := Lib.hid hh'
    clear hh'
    go_enter Tryz.func141, Tryz.ntmps141
    go_wp2_with fail
    refine H.out.mono ?_
    rintro e w1 ⟨rfl, hb1⟩
    have hb2 := hb0.trans (hb1.mono (by simp))
    obtain ⟨hc, hf⟩ := bcell hb1
    have hh := HH.out
    go_wp2
    go_ret
    exact ⟨ret_int ht.out.symm, hb2⟩

theorem gSum_take {gs : List (Int × Int)} {k : Nat} {x : Int × Int} (hx : gs[k]? = some x) : gSum (gs.take (k + 1)) = gSum (gs.take k) + x.2 := by
  obtain ⟨hk, e⟩ := List.getElem?_eq_some_iff.1 hx
  rw [List.take_succ_eq_append_getElem hk, e]
  simp [gSum, List.sum_append]
theorem gSum_bd {gs : List (Int × Int)} (h : ∀ x ∈ gs, 0 ≤ x.2 ∧ x.2 ≤ 8) : 0 ≤ gSum gs ∧ gSum gs ≤ 8 * gs.length := by
  induction gs with
  | nil => simp [gSum]
  | cons x gs ih =>
    have h1 := h x (by simp)
    have h2 := ih fun y hy => h y (by simp [hy])
    simp only [gSum, List.map_cons, List.sum_cons, List.length_cons] at h2 ⊢
    omega
theorem gRight_parts {gs : List (Int × Int)} {secs : Int} (h : gRight gs secs = true) : 1 ≤ gs.length ∧ gs.length ≤ 4 ∧ 24 ≤ secs ∧ secs ≤ 4096 ∧ ∀ x ∈ gs, gOne x = true := by
  simp only [gRight, Bool.and_eq_true, decide_eq_true_eq, List.all_eq_true] at h
  exact ⟨h.1.1.1.1, h.1.1.1.2, h.1.1.2, h.1.2, h.2⟩

theorem sum_take_bd {gs : List (Int × Int)} {secs : Int} (h : gRight gs secs = true) (k : Nat) : 0 ≤ gSum (gs.take k) ∧ gSum (gs.take k) ≤ 32 := by
  obtain ⟨_, h2, _, _, h5⟩ := gRight_parts h
  have := gSum_bd (gs := gs.take k) fun x hx => by have := gOne_true (h5 x (List.mem_of_mem_take hx)); omega
  have hl := List.length_take_le k gs
  have hl2 : (gs.take k).length ≤ gs.length := by rw [List.length_take]; omega
  omega

theorem devs_any (A : Option Addr) (n c : Nat) (gs : List (Int × Int)) (secs : Int) (w : World) (hg : GeoAt w A n gs) :
    Calls Tryz.prog 81 #[.agg #[.slice A n c, .int .i64 secs]] w fun e w' => e = .returned (.int .i64 (gDevs gs secs)) ∧ Below w.heap.size w w' := by
  have hb0 : Below w.heap.size w (w.alloc (Obj.cells #[Value.slice A n c, Value.int IntKind.i64 secs] 24)) := (Below.refl _ _).alloc (Nat.le_refl _) _
  have H := Lib.hid (right_any A n c gs secs (w.alloc (Obj.cells #[Value.slice A n c, Value.int IntKind.i64 secs] 24)) (hg.below hb0 (Nat.le_refl _)))
  by_cases hh : gRight gs secs = true
  · obtain ⟨hl1, hl4, hs1, hs2, hone⟩ := gRight_parts hh
    obtain ⟨b, off, rfl, hgs⟩ := hg.2.2 (by have := hg.1; omega)
    have hl := Lib.hid hg.1
    have hn2 := hg.2.1
    have ht : Hid (gDevs gs secs = gSum gs) := by unfold Hid gDevs; rw [hh]; rfl
    have HH := Lib.hid hh
    have HB := Lib.hid (sum_take_bd hh)
    clear hh hg
    go_enter Tryz.func81, Tryz.ntmps81
    go_wp2_with fail
    refine H.out.mono ?_
    rintro e w1 ⟨rfl, hb1⟩
    have hb2 := hb0.trans (hb1.mono (by simp))
    obtain ⟨hc, hf⟩ := bcell hb1
    have hh := HH.out
    go_wp2
    go_loopw [3, 12] (fun s t wr => ∃ k : Nat, k ≤ n ∧ t = .int .i64 k ∧ s = .int .i64 (gSum (gs.take k)) ∧ Below w.heap.size w wr) (fun _ t _ => n - (RowKit.intOf t).toNat)
    case atStart => exact ⟨0, Nat.zero_le _, rfl, rfl, hb2⟩
    case round =>
      obtain ⟨k, hk, rfl, rfl, hb⟩ := hrel
      clear hc hf
      by_cases hlt : k < n
      · obtain ⟨x, hx⟩ : ∃ x, gs[k]? = some x := ⟨_, List.getElem?_eq_getElem (by have := hl.out; omega)⟩
        obtain ⟨hc1, hc2⟩ := (hgs.below hb (Nat.le_refl _)).2 k x hx
        have hs := Lib.hid (gSum_take hx)
        have hB1 := HB.out k
        have hB2 := HB.out (k + 1)
        rw [hs.out] at hB2
        clear hx
        go_wp2
        go_roundw
        case rel => exact ⟨k + 1, by omega, by go_num, by rw [hs.out], hb.alloc hb.size _⟩
        case measure => simp [RowKit.intOf]; omega
      · go_wp2
        go_ret
        exact ⟨ret_int (by rw [ht.out, List.take_of_length_le (by have := hl.out; omega)]), hb⟩
  · have hh' : gRight gs secs = false := by simpa using hh
    have ht : Hid (gDevs gs secs = 0) := by unfold Hid gDevs; rw [hh']; rfl
    clear hg hh
    have HH := Lib.hid hh'
    clear hh'
    go_enter Tryz.func81, Tryz.ntmps81
    go_wp2_with fail
    refine H.out.mono ?_
    rintro e w1 ⟨rfl, hb1⟩
    have hb2 := hb0.trans (hb1.mono (by simp))
    obtain ⟨hc, hf⟩ := bcell hb1
    have hh := HH.out
    go_wp2
    go_ret
    exact ⟨ret_int ht.out.symm, hb2⟩

theorem first_any (A : Option Addr) (n c : Nat) (gs : List (Int × Int)) (secs g : Int) (w : World) (hg : GeoAt w A n gs) :
    Calls Tryz.prog 128 #[.agg #[.slice A n c, .int .i64 secs], .int .i64 g] w fun e w' => e = .returned (.int .i64 (gFirst gs secs g)) ∧ Below w.heap.size w w' := by
  have hb0 : Below w.heap.size w (w.alloc (Obj.cells #[Value.slice A n c, Value.int IntKind.i64 secs] 24)) := (Below.refl _ _).alloc (Nat.le_refl _) _
  have H := Lib.hid (has_any A n c gs secs g (w.alloc (Obj.cells #[Value.slice A n c, Value.int IntKind.i64 secs] 24)) (hg.below hb0 (Nat.le_refl _)))
  by_cases hh : gHas gs secs g = true
  · obtain ⟨kg, x, rfl, hk, hl4, hs1, hs2, hx, hgx, ho⟩ := gHas_true hh
    obtain ⟨b, off, rfl, hgs⟩ := hg.2.2 (by have := hg.1; omega)
    have hl := Lib.hid hg.1
    have hkn : kg < n := by have := hl.out; omega
    have hn2 := hg.2.1
    have hr : gRight gs secs = true := by simp only [gHas, Bool.and_eq_true] at hh; exact hh.1.1
    have ht : Hid (gFirst gs secs kg = gSum (gs.take kg)) := by unfold Hid gFirst; rw [hh]; simp
    have HH := Lib.hid hh
    have HB := Lib.hid (sum_take_bd hr)
    clear hh hg hr hx hgx ho
    go_enter Tryz.func128, Tryz.ntmps128
    go_wp2_with fail
    refine H.out.mono ?_
    rintro e w1 ⟨rfl, hb1⟩
    have hb2 := hb0.trans (hb1.mono (by simp))
    obtain ⟨hc, hf⟩ := bcell hb1
    have hcA : w1.cell? ⟨w.heap.size, 0, none⟩ = some (.slice (some ⟨b, off, none⟩) n c) := by rw [hc _ _ (by simp)]; simp
    have hsz : w.heap.size < w1.heap.size := by have := hb1.size; simp at this; omega
    have hh := HH.out
    go_wp2
    go_loopw [5, 12] (fun s t wr => ∃ k : Nat, k ≤ kg ∧ t = .int .i64 k ∧ s = .int .i64 (gSum (gs.take k)) ∧ Below w1.heap.size w1 wr) (fun _ t _ => kg - (RowKit.intOf t).toNat)
    case atStart => exact ⟨0, Nat.zero_le _, rfl, rfl, Below.refl _ _⟩
    case round =>
      obtain ⟨k, hk, rfl, rfl, hb⟩ := hrel
      clear hc hf
      by_cases hlt : k < kg
      · obtain ⟨x, hx⟩ : ∃ x, gs[k]? = some x := ⟨_, List.getElem?_eq_getElem (by have := hl.out; omega)⟩
        obtain ⟨hc1, hc2⟩ := (hgs.below (hb2.trans (hb.mono (by omega))) (Nat.le_refl _)).2 k x hx
        have hcB := (hb.cell (p := ⟨w.heap.size, 0, none⟩) hsz).trans hcA
        have hs := Lib.hid (gSum_take hx)
        have hB1 := HB.out k
        have hB2 := HB.out (k + 1)
        rw [hs.out] at hB2
        clear hx
        go_wp2
        go_roundw
        case rel => exact ⟨k + 1, by omega, by go_num, by rw [hs.out], hb⟩
        case measure => simp [RowKit.intOf]; omega
      · go_wp2
        go_ret
        obtain rfl : k = kg := by omega
        exact ⟨ret_int ht.out.symm, hb2.trans (hb.mono (by omega))⟩
  · have hh' : gHas gs secs g = false := by simpa using hh
    have ht : Hid (gFirst gs secs g = 0) := by unfold Hid gFirst; rw [hh']; rfl
    clear hg hh
    have HH := Lib.hid hh'
    clear hh'
    go_enter Tryz.func128, Tryz.ntmps128
    go_wp2_with fail
    refine H.out.mono ?_
    rintro e w1 ⟨rfl, hb1⟩
    have hb2 := hb0.trans (hb1.mono (by simp))
    obtain ⟨hc, hf⟩ := bcell hb1
    have hh := HH.out
    go_wp2
    go_ret
    exact ⟨ret_int ht.out.symm, hb2⟩
end Go.Proofs.YtlpbbjjibnbooaaGreatDoor
