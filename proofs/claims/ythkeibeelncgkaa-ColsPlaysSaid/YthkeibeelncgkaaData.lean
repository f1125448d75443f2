/-
  cols.Data: slices.IndexFunc, slices.DeleteFunc at Col.
-/
import Derived.Lib.SliceRun
import Derived.Test.YthkeibeelncgkaaCols6
namespace Go.Proofs.Ythkeibeelncgkaa
open Go.RowKit
set_option linter.unusedVariables false

section
variable {w : World} {base g cap n size : Nat} {e : TypeId} {xs : List Value}

/-- Cells that are stored into an own row from cell o on leave what lies ahead of o. -/
theorem own_setCells (us : List Value) : ∀ (w : World) (o : Nat) (xs : List Value), w.ownsRow base e size (.slice (some ⟨g, 0, none⟩) n cap) n xs →
    ∃ ys, (w.setCells g o us).ownsRow base e size (.slice (some ⟨g, 0, none⟩) n cap) n ys ∧ (∀ j, j < o → ys[j]? = xs[j]?) ∧ w.grownBy (w.setCells g o us) (some g) := by
  induction us with
  | nil => intro w o xs h; exact ⟨xs, h, fun _ _ => rfl, ⟨rfl, rfl, rfl, Nat.le_refl _, fun _ _ _ => rfl⟩⟩
  | cons u us ih =>
    intro w o xs h
    obtain ⟨h1, h2⟩ := h.stored o u
    obtain ⟨ys, h3, h4, h5⟩ := ih _ (o + 1) _ h1
    refine ⟨ys, h3, fun j hj => ?_, ⟨h5.os.trans h2.os, h5.tape.trans h2.tape, h5.output.trans h2.output, Nat.le_trans h2.size h5.size, fun k hk hne => (h5.block k (Nat.lt_of_lt_of_le hk h2.size) hne).trans (h2.block k hk hne)⟩⟩
    rw [h4 j (by omega), List.getElem?_set_ne (by omega)]

/-- The first m elements of an own row. -/
theorem own_take {m : Nat} (hm : m ≤ n) (h : w.ownsRow base e size (.slice (some ⟨g, 0, none⟩) n cap) n xs) : w.ownsRow base e size (.slice (some ⟨g, 0, none⟩) m cap) m (xs.take (m * size)) := by
  obtain ⟨h0, h2⟩ := h
  rcases h2 with ⟨h1, _⟩ | ⟨g', cap', cur, hv, hg, hh, hn, hcap, hsz, htake⟩
  · cases h1
  · cases hv
    have hle := Nat.mul_le_mul_right size hm
    refine ⟨by rw [List.length_take, h0]; exact Nat.min_eq_left hle, .inr ⟨g, cap, cur, rfl, hg, hh, by omega, hcap, hsz, ?_⟩⟩
    rw [← htake, List.take_take, Nat.min_eq_left hle]

theorem own_cap (h : w.ownsRow base e size (.slice (some ⟨g, 0, none⟩) n cap) n xs) : n ≤ cap ∧ cap ≤ maxLen ∧ base ≤ g ∧ g < w.heap.size := by
  rcases h.2 with ⟨h1, _⟩ | ⟨g', cap', cur, hv, hg, hh, hn, hcap, hsz, htake⟩
  · cases h1
  · cases hv
    exact ⟨hn, hcap, hg, lt_of_block hh⟩
end

theorem run_clear_cells {P : Program} (w : World) (t e ty : TypeId) (z : Value) (ht : P.underlying t = some (.slice e)) (hv : ∀ w, (zeroValue e).run P w = .ok z w) (b o n c : Nat) (hn : 0 < n)
    (h1 : ∀ v ∈ (Builtin.zeroCells z.cells n).toList, v.oneCell' = true)
    (hc : ∀ j, j < (Builtin.zeroCells z.cells n).toList.length → (w.cell? ⟨b, o + j, none⟩).isSome = true) (hf : ∀ j, j < (Builtin.zeroCells z.cells n).toList.length → w.frozen? ⟨b, o + j, none⟩ = false) :
    (Builtin.clear_ #[t] ty #[.slice (some ⟨b, o, none⟩) n c]).run P w = .ok (.tuple #[]) (w.setCells b o (Builtin.zeroCells z.cells n).toList) := by
  have hst := run_storeCells_cells (P := P) b o (Builtin.zeroCells z.cells n).toList 0 w (by simpa using hc) (by simpa using hf) h1
  simp only [Nat.add_zero] at hst
  obtain ⟨m, rfl⟩ : ∃ m, n = m + 1 := ⟨n - 1, by omega⟩
  simp only [Builtin.clear_, List.getElem?_toArray, List.size_toArray] 
  simp [run_underlying ht, hv, hst]

theorem colsCells_set (L : List Col) : ∀ (i : Nat) (x : Col), colsCells (L.set i x) = ((((colsCells L).set (i * 4) (.int .i64 x.1)).set (i * 4 + 1) (.int .i64 x.2.1)).set (i * 4 + 2) (.bool x.2.2.1)).set (i * 4 + 3) (.int .i64 x.2.2.2) := by
  induction L with
  | nil => intro i x; rfl
  | cons y L ih =>
    intro i x
    match i with
    | 0 => rfl
    | i + 1 =>
      have e : colsCells (y :: L) = .int .i64 y.1 :: .int .i64 y.2.1 :: .bool y.2.2.1 :: .int .i64 y.2.2.2 :: colsCells L := rfl
      have e2 : colsCells (y :: L.set i x) = .int .i64 y.1 :: .int .i64 y.2.1 :: .bool y.2.2.1 :: .int .i64 y.2.2.2 :: colsCells (L.set i x) := rfl
      rw [List.set_cons_succ, e2, e, ih i x, show (i + 1) * 4 = i * 4 + 1 + 1 + 1 + 1 from by omega]
      rfl

theorem colsCells_take (L : List Col) : ∀ m : Nat, (colsCells L).take (m * 4) = colsCells (L.take m) := by
  induction L with
  | nil => intro m; simp [colsCells]
  | cons y L ih =>
    intro m
    match m with
    | 0 => rfl
    | m + 1 =>
      have e : colsCells (y :: L) = .int .i64 y.1 :: .int .i64 y.2.1 :: .bool y.2.2.1 :: .int .i64 y.2.2.2 :: colsCells L := rfl
      have e2 : colsCells (y :: L.take m) = .int .i64 y.1 :: .int .i64 y.2.1 :: .bool y.2.2.1 :: .int .i64 y.2.2.2 :: colsCells (L.take m) := rfl
      rw [List.take_succ_cons, e2, e, ← ih m, show (m + 1) * 4 = m * 4 + 1 + 1 + 1 + 1 from by omega]
      rfl

/-- What a predicate on columns answers, wherever it is called. -/
def ColPred (fn : FuncId) (caps : Array Value) (p : Col → Bool) (B : Nat) (w0 : World) : Prop :=
  ∀ (x : Col) (w : World), Below B w0 w → Calls Try.prog fn (#[.agg #[.int .i64 x.1, .int .i64 x.2.1, .bool x.2.2.1, .int .i64 x.2.2.2]] ++ caps) w fun e w' => e = .returned (.bool (p x)) ∧ Below w.heap.size w w'

theorem indexC_any (fn : FuncId) (caps : Array Value) (p : Col → Bool) (b off n c B : Nat) (gs : List Col) (w : World) (hn : gs.length = n) (hn2 : n ≤ 9223372036854775807)
    (hr : CsAt w b off gs) (hgo : Goes fn) (hB : B ≤ w.heap.size) (hp : ColPred fn caps p B w) :
    Calls Try.prog 38 #[.slice (some ⟨b, off, none⟩) n c, .func (.func fn) #[] caps] w fun e w' =>
      e = .returned (.int .i64 (firstAt p gs)) ∧ Below w.heap.size w w' := by
  have HP := Lib.hid hp
  clear hp
  unfold Goes at hgo
  go_enter Try.func38, Try.ntmps38
  go_wp2
  go_loopw [8] (fun t wr => ∃ k : Nat, k ≤ n ∧ t = .int .i64 k ∧ Below w.heap.size w wr ∧ (∀ j, j < k → ∀ x, gs[j]? = some x → p x = false)) (fun t _ => n - (intOf t).toNat)
  case atStart => exact ⟨0, Nat.zero_le _, rfl, Below.refl _ _, fun j hj => absurd hj (by omega)⟩
  case round =>
    obtain ⟨k, hk, rfl, hb, hno⟩ := hrel
    by_cases hlt : k < n
    · obtain ⟨x, hx⟩ : ∃ x, gs[k]? = some x := ⟨_, List.getElem?_eq_getElem (by omega)⟩
      obtain ⟨hc1, hc2, hc3, hc4⟩ := (hr.below hb (Nat.le_refl _)).2 k x hx
      have HX := Lib.hid hx
      have HN := Lib.hid hno
      clear hx hno
      go_wp2_with fail
      refine (HP.out x wr (hb.mono hB)).mono ?_
      rintro e w1 ⟨rfl, hb1⟩
      go_wp2_with fail
      · go_ret
        exact ⟨ret_int (firstAt_hit HX.out (by assumption) HN.out).symm, hb.trans (hb1.mono hb.size)⟩
      · go_roundw
        case rel =>
          refine ⟨k + 1, by omega, by go_num, hb.trans (hb1.mono hb.size), fun j hj y hy => ?_⟩
          rcases Nat.lt_or_ge j k with h | h
          · exact HN.out j h y hy
          · obtain rfl : j = k := by omega
            rw [HX.out] at hy
            cases hy
            assumption
        case measure => simp [intOf]; omega
    · go_wp2_with fail
      go_ret
      exact ⟨ret_int (firstAt_miss fun j hj x hx => hno j (by omega) x hx).symm, hb⟩
end Go.Proofs.Ythkeibeelncgkaa
