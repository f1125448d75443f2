/-
  What pointers' functions call: cmp.Compare, cmp.Or, ptr.within, ptr.small, fletch.Bytes.
-/
import Derived.Test.YtidmbibpoldgcaaLe2
import Derived.Test.YtidmbibpoldgcaaCls
namespace Go.Proofs.Ytidmbibpoldgcaa
open Go.RowKit
set_option linter.unusedVariables false

/-- From b, off on lie these integers. -/
def IntsAt (w : World) (b off : Nat) (l : List Int) : Prop := b < w.heap.size ∧ ∀ (i : Nat) (x : Int), l[i]? = some x → w.cell? ⟨b, off + i, none⟩ = some (.int .i64 x)
theorem IntsAt.below {w w' : World} {b off B : Nat} {l : List Int} (h : IntsAt w b off l) (hb : Below B w w') (hB : w.heap.size ≤ B) : IntsAt w' b off l := by
  obtain ⟨h1, h2⟩ := h
  exact ⟨Nat.lt_of_lt_of_le h1 hb.size, fun i x hx => (hb.cell (p := ⟨b, off + i, none⟩) (by show b < B; omega)).trans (h2 i x hx)⟩
theorem IntsAt.new (w : World) (l : List Int) (t : TypeId) : IntsAt (w.alloc (.cells ((l.map (Value.int .i64)).toArray) t)) w.heap.size 0 l := by
  refine ⟨by simp, fun i x hx => ?_⟩
  exact cell_new rfl (by simp [hx])

def cmpInt (x y : Int) : Int := if x < y then -1 else if y < x then 1 else 0
/-- The first of the numbers that is not zero. -/
def orL : List Int → Int
  | [] => 0
  | x :: r => if x = 0 then orL r else x
theorem orL_skip {l : List Int} {k : Nat} (h : ∀ j, j < k → l[j]? = some 0) : orL l = orL (l.drop k) := by
  induction k generalizing l with
  | zero => rfl
  | succ k ih =>
    cases l with
    | nil => simp
    | cons x r =>
      have h0 : x = 0 := by simpa using h 0 (by omega)
      rw [orL, if_pos h0, List.drop_succ_cons]
      exact ih fun j hj => by simpa using h (j + 1) (by omega)

def withinL (most : Int) (l : List Int) : Bool := l.all fun x => decide (0 ≤ x) && decide (x ≤ most)
theorem within_any (most : Int) (b n c : Nat) (l : List Int) (w : World) (hl : l.length = n) (hn : n ≤ 100) (h : IntsAt w b 0 l) :
    Calls Try.prog 28 #[.int .i64 most, .slice (some ⟨b, 0, none⟩) n c] w fun e w' => e = .returned (.bool (withinL most l)) ∧ ∃ q, w' = w.drewN q := by
  have H := Lib.hid h
  have HL := Lib.hid hl
  clear h hl
  go_enter Try.func28, Try.ntmps28
  go_wp2
  go_loopw [9] (fun t wr => ∃ k : Nat, k ≤ n ∧ t = .int .i64 k ∧ (∀ j x, j < k → l[j]? = some x → 0 ≤ x ∧ x ≤ most) ∧ ∃ q, wr = w.drewN q) (fun t _ => n - (intOf t).toNat)
  case atStart => exact ⟨0, Nat.zero_le _, rfl, fun j x hj => absurd hj (by omega), 0, rfl⟩
  case round =>
    obtain ⟨k, hk, rfl, hz, q, rfl⟩ := hrel
    have HZ := Lib.hid hz
    clear hz
    by_cases hlt : k < n
    · obtain ⟨x, hx⟩ : ∃ x, l[k]? = some x := ⟨_, List.getElem?_eq_getElem (by have := HL.out; omega)⟩
      have hc : w.cell? ⟨b, k, none⟩ = some (.int .i64 x) := by have := H.out.2 k x hx; rwa [Nat.zero_add] at this
      have HX := Lib.hid hx
      have hk0 : (0 : Int) ≤ k := by omega
      have hk1 : (k : Int) < n := by omega
      clear hx
      by_cases h0 : 0 ≤ x ∧ x ≤ most
      · obtain ⟨g1, g2⟩ := h0
        go_wp2_with fail
        go_roundw
        case rel =>
          refine ⟨k + 1, by omega, by go_num, fun j y hj hy => ?_, q, rfl⟩
          rcases Nat.lt_or_ge j k with h | h
          · exact HZ.out j y h hy
          · obtain rfl : j = k := by omega
            rw [HX.out] at hy
            injection hy with hy
            rw [← hy]; exact ⟨g1, g2⟩
        case measure => simp [intOf]; omega
      · have HV : Hid (withinL most l = false) := by
          unfold Hid withinL
          rw [List.all_eq_false]
          exact ⟨x, List.mem_of_getElem? HX.out, by simp; omega⟩
        have h1 : x < 0 ∨ most < x := by omega
        clear h0
        rcases h1 with h1 | h1
        all_goals
          go_wp2_with fail
          all_goals go_ret
          all_goals exact ⟨ret_bool HV.out.symm, q, rfl⟩
    · have HV : Hid (withinL most l = true) := by
        unfold Hid withinL
        rw [List.all_eq_true]
        intro x hx
        obtain ⟨j, hj⟩ := List.mem_iff_getElem?.1 hx
        have := HZ.out j x (by have := (List.getElem?_eq_some_iff.1 hj).1; have := HL.out; omega) hj
        simp [this]
      go_wp2_with fail
      go_ret
      exact ⟨ret_bool HV.out.symm, q, rfl⟩

def smallL (l : List Int) : List UInt8 := l.flatMap u32L
theorem u32L_len (n : Int) : (u32L n).length ≤ 4 := by unfold u32L; split <;> simp [layL_len]
theorem smallL_step {l : List Int} {k : Nat} {x : Int} (h : l[k]? = some x) : smallL (l.take (k + 1)) = smallL (l.take k) ++ u32L x := by
  unfold smallL; rw [List.take_add_one, h]; simp
theorem smallL_len (l : List Int) : (smallL l).length ≤ 4 * l.length := by
  unfold smallL
  induction l with
  | nil => simp
  | cons x r ih => rw [List.flatMap_cons, List.length_append, List.length_cons]; have := u32L_len x; omega
theorem small_any (b n c : Nat) (l : List Int) (w : World) (hl : l.length = n) (hn : n ≤ 100) (h : IntsAt w b 0 l) :
    Calls Try.prog 29 #[.slice (some ⟨b, 0, none⟩) n c] w fun e w' => e = .returned (str (smallL l)) ∧ Below w.heap.size w w' := by
  have H := Lib.hid h
  have HL := Lib.hid hl
  clear h hl
  go_enter Try.func29, Try.ntmps29
  go_wp2
  go_loopw [3, 8] (fun s t wr => ∃ k : Nat, k ≤ n ∧ t = .int .i64 k ∧ s = str (smallL (l.take k)) ∧ Below w.heap.size w wr) (fun _ t _ => n - (intOf t).toNat)
  case atStart => exact ⟨0, Nat.zero_le _, rfl, rfl, Below.refl _ _⟩
  case round =>
    obtain ⟨k, hk, rfl, rfl, hb⟩ := hrel
    by_cases hlt : k < n
    · obtain ⟨x, hx⟩ : ∃ x, l[k]? = some x := ⟨_, List.getElem?_eq_getElem (by have := HL.out; omega)⟩
      have hc : wr.cell? ⟨b, k, none⟩ = some (.int .i64 x) := by have := (H.out.below hb (Nat.le_refl _)).2 k x hx; rwa [Nat.zero_add] at this
      have HS := Lib.hid (smallL_step hx)
      have hk0 : (0 : Int) ≤ k := by omega
      have hk1 : (k : Int) < n := by omega
      have hsl : (smallL (l.take k)).length ≤ 400 := by
        have := smallL_len (l.take k)
        have h2 : (l.take k).length ≤ k := List.length_take_le _ _
        omega
      have hul := u32L_len x
      clear hx
      generalize smallL (l.take k) = s at *
      go_wp2_with fail
      refine (u32_any x _).mono ?_
      rintro e w2 ⟨rfl, hb2⟩
      generalize u32L x = u at *
      go_wp2_with fail
      go_roundw
      case rel => exact ⟨k + 1, by omega, by go_num, by rw [HS.out]; exact congrArg Value.string (ByteArray.mk_append_mk s u), hb.trans (hb2.mono hb.size)⟩
      case measure => simp [intOf]; omega
    · have HV : Hid (l.take k = l) := Lib.hid (List.take_of_length_le (by have := HL.out; omega))
      rw [HV.out]
      go_wp2_with fail
      go_ret
      exact ⟨rfl, hb⟩

def sumL (s : List Nat) : List UInt8 := s.flatMap fun x => layL x 8
theorem sumL_len (s : List Nat) : (sumL s).length = 8 * s.length := by
  unfold sumL
  induction s with
  | nil => rfl
  | cons x r ih => rw [List.flatMap_cons, List.length_append, List.length_cons, ih, layL_len]; omega
theorem fbytes_any (s0 s1 s2 s3 : Nat) (w : World) (h0 : s0 < 18446744073709551616) (h1 : s1 < 18446744073709551616) (h2 : s2 < 18446744073709551616) (h3 : s3 < 18446744073709551616) :
    Calls Try.prog 30 #[.agg #[.int .u64 s0, .int .u64 s1, .int .u64 s2, .int .u64 s3]] w fun e w' => e = .returned (str (sumL [s0, s1, s2, s3])) ∧ Below w.heap.size w w' := by
  have H0 := Lib.hid fun W => u64_any s0 W h0
  have H1 := Lib.hid fun W => u64_any s1 W h1
  have H2 := Lib.hid fun W => u64_any s2 W h2
  have H3 := Lib.hid fun W => u64_any s3 W h3
  have i0 : ∀ w, (Instr.index 26 (.agg #[.int .u64 s0, .int .u64 s1, .int .u64 s2, .int .u64 s3]) (.int .i64 0)).run Try.prog w = .ok (.int .u64 s0) w := fun _ => by kernel_rfl
  have i1 : ∀ w, (Instr.index 26 (.agg #[.int .u64 s0, .int .u64 s1, .int .u64 s2, .int .u64 s3]) (.int .i64 1)).run Try.prog w = .ok (.int .u64 s1) w := fun _ => by kernel_rfl
  have i2 : ∀ w, (Instr.index 26 (.agg #[.int .u64 s0, .int .u64 s1, .int .u64 s2, .int .u64 s3]) (.int .i64 2)).run Try.prog w = .ok (.int .u64 s2) w := fun _ => by kernel_rfl
  have i3 : ∀ w, (Instr.index 26 (.agg #[.int .u64 s0, .int .u64 s1, .int .u64 s2, .int .u64 s3]) (.int .i64 3)).run Try.prog w = .ok (.int .u64 s3) w := fun _ => by kernel_rfl
  clear h0 h1 h2 h3
  go_enter Try.func30, Try.ntmps30
  go_wp2_with fail
  go_loopw [3, 7] (fun s t wr => ∃ k : Nat, k ≤ 4 ∧ t = .int .i64 k ∧ s = str (sumL ([s0, s1, s2, s3].take k)) ∧ Below w.heap.size w wr) (fun _ t _ => 4 - (intOf t).toNat)
  case atStart => exact ⟨0, by omega, rfl, rfl, (Below.refl _ _).alloc (Nat.le_refl _) _⟩
  case round =>
    obtain ⟨k, hk, rfl, rfl, hb⟩ := hrel
    have hk4 : k = 0 ∨ k = 1 ∨ k = 2 ∨ k = 3 ∨ k = 4 := by omega
    have hlen : (sumL ([s0, s1, s2, s3].take k)).length ≤ 32 := by rw [sumL_len, List.length_take]; simp; omega
    rcases hk4 with rfl | rfl | rfl | rfl | rfl
    · have HS : Hid (sumL ([s0, s1, s2, s3].take (0 + 1)) = sumL ([s0, s1, s2, s3].take 0) ++ layL s0 8) := by simp [Hid, sumL]
      generalize sumL ([s0, s1, s2, s3].take 0) = s at *
      go_wp2_with fail
      refine (H0.out _).mono ?_
      rintro e w2 ⟨rfl, hb2⟩
      have hll : (layL s0 8).length ≤ 8 := by rw [layL_len]; exact Nat.le_refl _
      generalize layL s0 8 = u at *
      go_wp2_with fail
      go_roundw
      case rel => exact ⟨0 + 1, by omega, rfl, by rw [HS.out]; exact congrArg Value.string (ByteArray.mk_append_mk s u), hb.trans (hb2.mono hb.size)⟩
      case measure => simp [intOf]
    · have HS : Hid (sumL ([s0, s1, s2, s3].take (1 + 1)) = sumL ([s0, s1, s2, s3].take 1) ++ layL s1 8) := by simp [Hid, sumL]
      generalize sumL ([s0, s1, s2, s3].take 1) = s at *
      go_wp2_with fail
      refine (H1.out _).mono ?_
      rintro e w2 ⟨rfl, hb2⟩
      have hll : (layL s1 8).length ≤ 8 := by rw [layL_len]; exact Nat.le_refl _
      generalize layL s1 8 = u at *
      go_wp2_with fail
      go_roundw
      case rel => exact ⟨1 + 1, by omega, rfl, by rw [HS.out]; exact congrArg Value.string (ByteArray.mk_append_mk s u), hb.trans (hb2.mono hb.size)⟩
      case measure => simp [intOf]
    · have HS : Hid (sumL ([s0, s1, s2, s3].take (2 + 1)) = sumL ([s0, s1, s2, s3].take 2) ++ layL s2 8) := by simp [Hid, sumL]
      generalize sumL ([s0, s1, s2, s3].take 2) = s at *
      go_wp2_with fail
      refine (H2.out _).mono ?_
      rintro e w2 ⟨rfl, hb2⟩
      have hll : (layL s2 8).length ≤ 8 := by rw [layL_len]; exact Nat.le_refl _
      generalize layL s2 8 = u at *
      go_wp2_with fail
      go_roundw
      case rel => exact ⟨2 + 1, by omega, rfl, by rw [HS.out]; exact congrArg Value.string (ByteArray.mk_append_mk s u), hb.trans (hb2.mono hb.size)⟩
      case measure => simp [intOf]
    · have HS : Hid (sumL ([s0, s1, s2, s3].take (3 + 1)) = sumL ([s0, s1, s2, s3].take 3) ++ layL s3 8) := by simp [Hid, sumL]
      generalize sumL ([s0, s1, s2, s3].take 3) = s at *
      go_wp2_with fail
      refine (H3.out _).mono ?_
      rintro e w2 ⟨rfl, hb2⟩
      have hll : (layL s3 8).length ≤ 8 := by rw [layL_len]; exact Nat.le_refl _
      generalize layL s3 8 = u at *
      go_wp2_with fail
      go_roundw
      case rel => exact ⟨3 + 1, by omega, rfl, by rw [HS.out]; exact congrArg Value.string (ByteArray.mk_append_mk s u), hb.trans (hb2.mono hb.size)⟩
      case measure => simp [intOf]
    · go_wp2_with fail
      go_ret
      exact ⟨rfl, hb⟩
end Go.Proofs.Ytidmbibpoldgcaa
