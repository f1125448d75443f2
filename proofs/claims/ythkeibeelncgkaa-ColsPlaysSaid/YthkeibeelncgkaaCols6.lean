/-
  Slices of columns that are read: Same, Rows; the document's example.
-/
import Derived.Test.YthkeibeelncgkaaCols5
namespace Go.Proofs.Ythkeibeelncgkaa
open Go.RowKit
set_option linter.unusedVariables false

/-- The columns L lie in memory from b, off on. -/
def CsAt (w : World) (b off : Nat) (L : List Col) : Prop :=
  b < w.heap.size ∧ ∀ (i : Nat) (x : Col), L[i]? = some x → w.cell? ⟨b, off + i * 4, none⟩ = some (.int .i64 x.1) ∧ w.cell? ⟨b, off + i * 4 + 1, none⟩ = some (.int .i64 x.2.1) ∧
    w.cell? ⟨b, off + i * 4 + 2, none⟩ = some (.bool x.2.2.1) ∧ w.cell? ⟨b, off + i * 4 + 3, none⟩ = some (.int .i64 x.2.2.2)

theorem CsAt.below {w w' : World} {b off B : Nat} {L : List Col} (h : CsAt w b off L) (hb : Below B w w') (hB : w.heap.size ≤ B) : CsAt w' b off L := by
  have hlt := h.1
  have hsz := hb.size
  refine ⟨by omega, fun i x hx => ?_⟩
  obtain ⟨h1, h2, h3, h4⟩ := h.2 i x hx
  exact ⟨(hb.cell (p := ⟨b, off + i * 4, none⟩) (by show b < B; omega)).trans h1, (hb.cell (p := ⟨b, off + i * 4 + 1, none⟩) (by show b < B; omega)).trans h2,
    (hb.cell (p := ⟨b, off + i * 4 + 2, none⟩) (by show b < B; omega)).trans h3, (hb.cell (p := ⟨b, off + i * 4 + 3, none⟩) (by show b < B; omega)).trans h4⟩
theorem CsAt.drew {w : World} {b off : Nat} {L : List Col} (h : CsAt w b off L) : CsAt w.drew b off L := h
theorem CsAt.drewN {w : World} {b off : Nat} {L : List Col} (h : CsAt w b off L) (k : Nat) : CsAt (w.drewN k) b off L := h

/-- The slice A of n columns reads as L. -/
def SlC (w : World) (A : Option Addr) (n : Nat) (L : List Col) : Prop := L.length = n ∧ n ≤ 9223372036854775807 ∧ (0 < n → ∃ b off, A = some ⟨b, off, none⟩ ∧ CsAt w b off L)
theorem SlC.below {w w' : World} {A : Option Addr} {n B : Nat} {L : List Col} (h : SlC w A n L) (hb : Below B w w') (hB : w.heap.size ≤ B) : SlC w' A n L :=
  ⟨h.1, h.2.1, fun hn => by
    obtain ⟨b, off, e, hg⟩ := h.2.2 hn
    exact ⟨b, off, e, hg.below hb hB⟩⟩

theorem colsCells_get (L : List Col) : ∀ (i : Nat) (x : Col), L[i]? = some x → (colsCells L)[i * 4]? = some (.int .i64 x.1) ∧ (colsCells L)[i * 4 + 1]? = some (.int .i64 x.2.1) ∧
    (colsCells L)[i * 4 + 2]? = some (.bool x.2.2.1) ∧ (colsCells L)[i * 4 + 3]? = some (.int .i64 x.2.2.2) := by
  induction L with
  | nil => intro i x h; simp at h
  | cons y L ih =>
    intro i x h
    have e : colsCells (y :: L) = .int .i64 y.1 :: .int .i64 y.2.1 :: .bool y.2.2.1 :: .int .i64 y.2.2.2 :: colsCells L := rfl
    match i, h with
    | 0, h => simp at h; subst h; rw [e]; exact ⟨rfl, rfl, rfl, rfl⟩
    | i + 1, h =>
      have h' : L[i]? = some x := by simpa using h
      rw [e, show (i + 1) * 4 = i * 4 + 1 + 1 + 1 + 1 from by omega]
      exact ih i x h'

theorem csAt_of_own {w : World} {base g cap : Nat} {L : List Col} (h : w.ownsRow base 34 4 (.slice (some ⟨g, 0, none⟩) L.length cap) L.length (colsCells L)) (hg : g < w.heap.size) : CsAt w g 0 L := by
  refine ⟨hg, fun i x hx => ?_⟩
  obtain ⟨hi, _⟩ := List.getElem?_eq_some_iff.1 hx
  obtain ⟨h1, h2, h3, h4⟩ := colsCells_get L i x hx
  have hc := fun j (hj : j < L.length * 4) => h.cellAt j hj
  simp only [Nat.zero_add]
  exact ⟨(hc _ (by omega)).trans h1, (hc _ (by omega)).trans h2, (hc _ (by omega)).trans h3, (hc _ (by omega)).trans h4⟩

theorem slC_of_own {w : World} {base : Nat} {v : Value} {L : List Col} (h : w.ownsRow base 34 4 v L.length (colsCells L)) (hl : L.length ≤ 9223372036854775807) :
    ∃ A cp, v = .slice A L.length cp ∧ SlC w A L.length L := by
  rcases h.2 with ⟨rfl, h0⟩ | ⟨g, cap, cur, rfl, hb, hh, _⟩
  · exact ⟨none, 0, by rw [h0], rfl, hl, fun hn => absurd hn (by omega)⟩
  · exact ⟨_, cap, rfl, rfl, hl, fun _ => ⟨g, 0, rfl, csAt_of_own h (lt_of_block hh)⟩⟩

theorem Try.stoodCol : Try.prog.stoodInHeld 34 = false := by kernel_rfl
theorem Try.guardCol : Try.prog.eqGuardType Try.prog.depth 34 = false := by kernel_rfl

def colEq (x y : Col) : Bool := x.1 == y.1 && (x.2.1 == y.2.1 && (x.2.2.1 == y.2.2.1 && x.2.2.2 == y.2.2.2))
theorem colEq_iff (x y : Col) : colEq x y = true ↔ x = y := by
  obtain ⟨a, b, c, d⟩ := x
  obtain ⟨a', b', c', d'⟩ := y
  simp [colEq]
theorem Try.fieldsCol : (Try.prog.fieldsOf 34).toList.map (fun f => (f.name == "_", f.type, f.offset)) = [(false, 3, 0), (false, 3, 1), (false, 4, 2), (false, 3, 3)] := by kernel_rfl
theorem neq_col (x y : Col) (w : World) : (binOp .neq 34 (.agg #[.int .i64 x.1, .int .i64 x.2.1, .bool x.2.2.1, .int .i64 x.2.2.2]) (.agg #[.int .i64 y.1, .int .i64 y.2.1, .bool y.2.2.1, .int .i64 y.2.2.2])).run Try.prog w = .ok (.bool (!colEq x y)) w := by
  rw [run_neq_struct, run_equalIn_agg w _ _ _ _ (by kernel_rfl) Try.stoodCol]
  simp [go_sem, Try.underlying34]
  unfold colEq
  by_cases h1 : x.1 = y.1 <;> by_cases h2 : x.2.1 = y.2.1 <;> by_cases h3 : x.2.2.1 = y.2.2.1 <;> by_cases h4 : x.2.2.2 = y.2.2.2 <;> simp [h1, h2, h3, h4]
theorem same_any (A B : Option Addr) (n c m d : Nat) (L M : List Col) (w : World) (hL : SlC w A n L) (hM : SlC w B m M) :
    Calls Try.prog 17 #[.slice A n c, .slice B m d] w fun e w' => e = .returned (.bool (decide (L = M))) ∧ Below w.heap.size w w' := by
  obtain ⟨hl1, hl2, hL⟩ := hL
  obtain ⟨hm1, hm2, hM⟩ := hM
  by_cases hnm : n = m
  · subst hnm
    have HL := Lib.hid hL
    have HM := Lib.hid hM
    have Hl := Lib.hid hl1
    have Hm := Lib.hid hm1
    clear hL hM hl1 hm1
    go_enter Try.func17, Try.ntmps17
    go_wp2
    go_loopw [5] (fun t wr => ∃ k : Nat, k ≤ n ∧ t = .int .i64 k ∧ Below w.heap.size w wr ∧ (∀ j, j < k → L[j]? = M[j]?)) (fun t _ => n - (intOf t).toNat)
    case atStart => exact ⟨0, Nat.zero_le _, rfl, Below.refl _ _, fun j hj => absurd hj (by omega)⟩
    case round =>
      obtain ⟨k, hk, rfl, hb, hno⟩ := hrel
      have HN := Lib.hid hno
      clear hno
      by_cases hlt : k < n
      · obtain ⟨x, hx⟩ : ∃ x, L[k]? = some x := ⟨_, List.getElem?_eq_getElem (by have := Hl.out; omega)⟩
        obtain ⟨y, hy⟩ : ∃ y, M[k]? = some y := ⟨_, List.getElem?_eq_getElem (by have := Hm.out; omega)⟩
        obtain ⟨b1, o1, eA, h1⟩ := HL.out (by omega)
        obtain ⟨b2, o2, eB, h2⟩ := HM.out (by omega)
        obtain ⟨p1, p2, p3, p4⟩ := (h1.below hb (Nat.le_refl _)).2 k x hx
        obtain ⟨q1, q2, q3, q4⟩ := (h2.below hb (Nat.le_refl _)).2 k y hy
        have HX := Lib.hid hx
        have HY := Lib.hid hy
        have hk0 : (0 : Int) ≤ k := by omega
        have hkn : (k : Int) < n := by omega
        clear hx hy h1 h2
        subst eA eB
        have heg := Try.guardCol
        have hne := fun W => neq_col x y W
        go_wp2_with fail
        go_quiet (fail)
        go_wp2_with fail
        · have hq : (!colEq x y) = true := by assumption
          go_ret
          refine ⟨ret_bool ?_, below_drewN hb _⟩
          have hxy : ¬ x = y := fun e => by rw [(colEq_iff x y).2 e] at hq; cases hq
          have : ¬ L = M := fun e => hxy (by have h1 := HX.out; rw [e, HY.out] at h1; injection h1 with h1; exact h1.symm)
          simp [this]
        · have hq : (!colEq x y) = false := by assumption
          have hxy : x = y := (colEq_iff x y).1 (by simpa using hq)
          go_roundw
          case rel =>
            refine ⟨k + 1, by omega, by go_num, below_drewN hb _, fun j hj => ?_⟩
            rcases Nat.lt_or_ge j k with h | h
            · exact HN.out j h
            · obtain rfl : j = k := by omega
              rw [HX.out, HY.out, hxy]
          case measure => simp [intOf]; omega
      · go_wp2_with fail
        go_ret
        refine ⟨ret_bool ?_, hb⟩
        have : L = M := by
          apply List.ext_getElem?
          intro j
          rcases Nat.lt_or_ge j n with h | h
          · exact HN.out j (by omega)
          · rw [List.getElem?_eq_none (by have := Hl.out; omega), List.getElem?_eq_none (by have := Hm.out; omega)]
        simp [this]
  · have : ¬ L = M := by rintro rfl; omega
    have he : ((n : Int) == m) = false := by simp; omega
    have he' : ((n : Int) != m) = true := by simp; omega
    clear hL hM hl1 hm1 hnm
    go_enter Try.func17, Try.ntmps17
    go_wp2
    go_ret
    exact ⟨ret_bool (by simp [this]), Below.refl _ _⟩

def ex1 : List Col := [(1, 16, true, 0), (2, 16, false, 0), (0, 17, false, 0)]

theorem awake_any (w : World) : Calls Try.prog 9 #[] w fun e w' => e = .returned (.bool true) ∧ Below w.heap.size w w' := by
  have hc : Hid (cMay [(1, 3)] 24 0 1 2 = true ∧ colsOf [(1, 3)] 24 0 1 2 = ex1) := ⟨by decide, by decide⟩
  have hl : Hid (ofList [(1, 3)] 24 0 1 2 = ex1 ∧ ofErr [(1, 3)] 24 0 1 2 = 0) := by unfold Hid ofList ofErr; rw [hc.out.1, hc.out.2]; exact ⟨rfl, rfl⟩
  go_enter Try.func9, Try.ntmps9
  go_wp2_with fail
  refine (of_any _ 1 1 [(1, 3)] 24 0 1 2 _ ⟨rfl, by omega, fun _ => ⟨w.heap.size, 0, rfl, by simp, ?_⟩⟩).mono ?_
  · intro i x hx
    match i, hx with
    | 0, hx => simp at hx; subst hx; simp
    | i + 1, hx => simp at hx
  rintro e w1 ⟨v, rfl, hown, hb1⟩
  rw [hl.out.1] at hown
  rw [hl.out.2]
  obtain ⟨A, cp, rfl, hs⟩ := slC_of_own hown (by decide)
  have hs' := Lib.hid hs
  clear hs hown
  go_wp2_with fail
  refine (same_any A _ ex1.length cp 3 3 ex1 ex1 _ (hs'.out.below ((Below.refl _ w1).alloc (Nat.le_refl _) _) (Nat.le_refl _)) ⟨rfl, by omega, fun _ => ⟨w1.heap.size, 0, rfl, by simp, ?_⟩⟩).mono ?_
  · intro i x hx
    match i, hx with
    | 0, hx => simp [ex1] at hx; subst hx; simp
    | 1, hx => simp [ex1] at hx; subst hx; simp
    | 2, hx => simp [ex1] at hx; subst hx; simp
    | i + 3, hx => simp [ex1] at hx
  rintro e w2 ⟨rfl, hb2⟩
  go_wp2_with fail
  go_ret
  refine ⟨ret_bool (by simp), ((((Below.refl _ _).alloc (Nat.le_refl _) _).trans (hb1.mono (by simp))).alloc ?_ _).trans (hb2.mono ?_)⟩
  · have := hb1.size; simp at this; omega
  · have := hb1.size; simp at this ⊢; omega

/-- How many rows there are. -/
def rowsTo (L : List Col) (k : Nat) : Int := (L.take k).foldl (fun n c => max n (c.2.2.2 + 1)) 0
theorem rowsTo_step {L : List Col} {k : Nat} {x : Col} (h : L[k]? = some x) : rowsTo L (k + 1) = max (rowsTo L k) (x.2.2.2 + 1) := by
  obtain ⟨hk, e⟩ := List.getElem?_eq_some_iff.1 h
  unfold rowsTo
  rw [List.take_succ_eq_append_getElem hk, List.foldl_append, e]
  rfl

theorem rows_any (A : Option Addr) (n c : Nat) (L : List Col) (w : World) (hL : SlC w A n L) (hr : ∀ x ∈ L, 0 ≤ x.2.2.2 ∧ x.2.2.2 ≤ 100) :
    Calls Try.prog 13 #[.slice A n c] w fun e w' => e = .returned (.int .i64 (rowsTo L n)) ∧ Below w.heap.size w w' := by
  obtain ⟨hl1, hl2, hL⟩ := hL
  have HL := Lib.hid hL
  have Hl := Lib.hid hl1
  have HR := Lib.hid hr
  clear hL hl1 hr
  go_enter Try.func13, Try.ntmps13
  go_wp2
  go_loopw [3, 8] (fun r t wr => ∃ k : Nat, k ≤ n ∧ t = .int .i64 k ∧ r = .int .i64 (rowsTo L k) ∧ 0 ≤ rowsTo L k ∧ rowsTo L k ≤ 101 ∧ Below w.heap.size w wr) (fun _ t _ => n - (intOf t).toNat)
  case atStart => exact ⟨0, Nat.zero_le _, rfl, rfl, by simp [rowsTo], by simp [rowsTo], Below.refl _ _⟩
  case round =>
    obtain ⟨k, hk, rfl, rfl, hr1, hr2, hb⟩ := hrel
    by_cases hlt : k < n
    · obtain ⟨x, hx⟩ : ∃ x, L[k]? = some x := ⟨_, List.getElem?_eq_getElem (by have := Hl.out; omega)⟩
      obtain ⟨b1, o1, eA, h1⟩ := HL.out (by omega)
      obtain ⟨p1, p2, p3, p4⟩ := (h1.below hb (Nat.le_refl _)).2 k x hx
      obtain ⟨g1, g2⟩ := HR.out x (List.mem_of_getElem? hx)
      have hs := Lib.hid (rowsTo_step hx)
      clear hx h1
      subst eA
      go_wp2_with fail
      go_roundw
      case rel =>
        refine ⟨k + 1, by omega, by go_num, ?_, ?_, ?_, hb.alloc hb.size _⟩
        · rw [hs.out]; congr 1; split <;> omega
        · rw [hs.out]; omega
        · rw [hs.out]; omega
      case measure => simp [intOf]; omega
    · obtain rfl : k = n := by omega
      go_wp2_with fail
      go_ret
      exact ⟨rfl, hb⟩
end Go.Proofs.Ythkeibeelncgkaa
