/-
  Layer 17: Of.
  Layer 17: Plain.
-/
import Derived.Test.YtidmbibpoldgcaaGreatDoorJ05
namespace Go.Proofs.YtidmbibpoldgcaaGreatDoor
set_option linter.unusedVariables false
set_option linter.unusedSimpArgs false
open Go.RowKit

/-- The cells of a state. -/
def stC (s : StA) (sv tv : Value) : Array Value := #[.int .i64 s.n, .int .i64 s.p.ag, .int .i64 s.p.aa, .int .i64 s.p.bg, .int .i64 s.p.ba, .bool s.p.two, .int .i64 s.p.size, .int .i64 s.p.level, .int .i64 s.p.birth, .int .u64 s.p.s0, .int .u64 s.p.s1, .int .u64 s.p.s2, .int .u64 s.p.s3, sv, .int .i64 s.z.x0, .int .i64 s.z.x1, .int .i64 s.z.x2, .int .i64 s.z.x3, .int .i64 s.z.x4, .int .i64 s.z.x5, .int .i64 s.z.x6, .int .i64 s.z.x7, .int .i64 s.z.x8, tv]
theorem stC_size (s : StA) (sv tv : Value) : (stC s sv tv).size = 24 := rfl
theorem stC_13 (s : StA) (sv tv v : Value) : (stC s sv tv).setIfInBounds 13 v = stC s v tv := rfl
theorem stC_23 (s : StA) (sv tv v : Value) : (stC s sv tv).setIfInBounds 23 v = stC s sv v := rfl
theorem stC_one (s : StA) (A1 A2 : Option Addr) (n1 c1 n2 c2 : Nat) : (stC s (.slice A1 n1 c1) (.slice A2 n2 c2)).all (·.oneCell') = true := by kernel_rfl
abbrev nilV : Value := .slice none 0 0
/-- A state in rows of its own. -/
structure OwnSt (tS tT : TypeId) (B : Nat) (w : World) (s : StA) (sv tv : Value) : Prop where
  snaps : w.ownsRow B tS 15 sv s.snaps.length (snapC s.snaps)
  stale : w.ownsRow B tT 2 tv s.stale.length (staC s.stale)
  apart : ∀ b, tv.ownBlock = some b → sv.ownBlock ≠ some b
theorem OwnSt.st {tS tT : TypeId} {B : Nat} {w : World} {s : StA} {sv tv : Value} (h : OwnSt tS tT B w s sv tv) : StIn w s sv tv := ⟨rowAt_own h.snaps, rowAt_own h.stale⟩
theorem below_drew' {B : Nat} {w w' : World} (h : Below B w w') : Below B w w'.drew := ⟨h.os, h.tape, h.output, h.size, h.block⟩
theorem sets_far {g : Nat} : ∀ (vs : List Value) (o : Nat) (w : World) (i : Nat), True → i ≠ g → (w.setCells g o vs).heap[i]? = w.heap[i]?
  | [], _, _, _, _, _ => rfl
  | v :: r, o, w, i, _, hi => by rw [World.setCells, sets_far r _ _ _ trivial hi]; exact Below.heap_setCell w ⟨g, o, none⟩ v i hi
theorem ownsRow_low {w : World} {base b2 n size : Nat} {e : TypeId} {v : Value} {xs : List Value} (h : w.ownsRow base e size v n xs) (hb : b2 ≤ base) : w.ownsRow b2 e size v n xs := by
  refine ⟨h.1, ?_⟩
  rcases h.2 with hn | ⟨g, cap, cur, rfl, h1, h2⟩
  · exact .inl hn
  · exact .inr ⟨g, cap, cur, rfl, Nat.le_trans hb h1, h2⟩
theorem sets_size {g : Nat} : ∀ (vs : List Value) (o : Nat) (w : World), (w.setCells g o vs).heap.size = w.heap.size
  | [], _, _ => rfl
  | v :: r, o, w => by rw [World.setCells, sets_size r]; simp [World.setCell]
theorem snapC_snoc (l : List SnapA) (x : SnapA) : snapC (l ++ [x]) = snapC l ++ snapL x := by simp [snapC]
theorem staC_snoc (l : List (Int × Int)) (x : Int × Int) : staC (l ++ [x]) = staC l ++ staL x := by simp [staC]
theorem build_mst (s : StA) (W : World) : (Instr.build 48 #[(0, .agg #[.int .i64 s.n, .int .i64 s.p.ag, .int .i64 s.p.aa, .int .i64 s.p.bg, .int .i64 s.p.ba, .bool s.p.two, .int .i64 s.p.size, .int .i64 s.p.level, .int .i64 s.p.birth, .int .u64 s.p.s0, .int .u64 s.p.s1, .int .u64 s.p.s2, .int .u64 s.p.s3]), (2, .agg #[.int .i64 s.z.x0, .int .i64 s.z.x1, .int .i64 s.z.x2, .int .i64 s.z.x3, .int .i64 s.z.x4, .int .i64 s.z.x5, .int .i64 s.z.x6, .int .i64 s.z.x7, .int .i64 s.z.x8])]).run Tryz.prog W = .ok (.agg (stC s nilV nilV)) W := by kernel_rfl

set_option maxRecDepth 100000 in
set_option maxHeartbeats 1000000 in
theorem mof_any (s : StA) (sv tv : Value) (w : World) (h : StIn w s sv tv) (f1 : s.snaps.length ≤ 30) (f2 : s.stale.length ≤ 60) :
    Calls Tryz.prog 8 #[.agg (stC s sv tv)] w fun e w' => ∃ sv' tv', e = .returned (.agg (stC s sv' tv')) ∧ OwnSt 75 61 w.heap.size w' s sv' tv' ∧ Below w.heap.size w w' := by
  obtain ⟨A1, c1, rfl⟩ := h.snaps.form
  obtain ⟨A2, c2, rfl⟩ := h.stale.form
  have H := Lib.hid h
  clear h
  have hib : ∀ W, (Instr.build 48 #[(0, .agg #[.int .i64 s.n, .int .i64 s.p.ag, .int .i64 s.p.aa, .int .i64 s.p.bg, .int .i64 s.p.ba, .bool s.p.two, .int .i64 s.p.size, .int .i64 s.p.level, .int .i64 s.p.birth, .int .u64 s.p.s0, .int .u64 s.p.s1, .int .u64 s.p.s2, .int .u64 s.p.s3]), (2, .agg #[.int .i64 s.z.x0, .int .i64 s.z.x1, .int .i64 s.z.x2, .int .i64 s.z.x3, .int .i64 s.z.x4, .int .i64 s.z.x5, .int .i64 s.z.x6, .int .i64 s.z.x7, .int .i64 s.z.x8])]).run Tryz.prog W = .ok (.agg (stC s nilV nilV)) W := build_mst s
  have hi43 : (Tryz.prog.info? 48).map (·.size) = some (stC s nilV nilV).size := by rw [stC_size]; kernel_rfl
  have h1c := stC_one s none none 0 0 0 0
  obtain ⟨cA, hcA⟩ : ∃ x, x = stC s (.slice A1 s.snaps.length c1) (.slice A2 s.stale.length c2) := ⟨_, rfl⟩
  obtain ⟨cO, hcO⟩ : ∃ x, x = stC s nilV nilV := ⟨_, rfl⟩
  rw [← hcA]
  rw [← hcO] at hib hi43 h1c
  have B1 : Blk (w.alloc (.cells cA 38)) w.heap.size 38 cA := Blk.new _ _ _
  obtain ⟨w2, hw2⟩ : ∃ x, x = (w.alloc (.cells cA 38)).alloc (.cells #[.int .i64 0, .int .i64 0, .int .i64 0, .int .i64 0, .int .i64 0, .bool false, .int .i64 0, .int .i64 0, .int .i64 0, .int .u64 0, .int .u64 0, .int .u64 0, .int .u64 0, .slice none 0 0, .int .i64 0, .int .i64 0, .int .i64 0, .int .i64 0, .int .i64 0, .int .i64 0, .int .i64 0, .int .i64 0, .int .i64 0, .slice none 0 0] 48) := ⟨_, rfl⟩
  have B2 : Blk w2 w.heap.size 38 cA := by rw [hw2]; exact B1.alloc _
  have s2 : w2.heap.size = w.heap.size + 2 := by rw [hw2]; simp
  have d2 : Below w.heap.size w w2 := by rw [hw2]; exact keep_alloc (keep_alloc (Below.refl _ _) _) _
  have Z2 : Blk w2 (w.heap.size + 1) 48 #[.int .i64 0, .int .i64 0, .int .i64 0, .int .i64 0, .int .i64 0, .bool false, .int .i64 0, .int .i64 0, .int .i64 0, .int .u64 0, .int .u64 0, .int .u64 0, .int .u64 0, .slice none 0 0, .int .i64 0, .int .i64 0, .int .i64 0, .int .i64 0, .int .i64 0, .int .i64 0, .int .i64 0, .int .i64 0, .int .i64 0, .slice none 0 0] := by rw [hw2]; exact Blk.new2 w _ _ _
  obtain ⟨w3, hw3⟩ : ∃ x, x = w2.alloc (.cells #[.int .i64 s.z.x0, .int .i64 s.z.x1, .int .i64 s.z.x2, .int .i64 s.z.x3, .int .i64 s.z.x4, .int .i64 s.z.x5, .int .i64 s.z.x6, .int .i64 s.z.x7, .int .i64 s.z.x8] 35) := ⟨_, rfl⟩
  have B3 : Blk w3 w.heap.size 38 cA := by rw [hw3]; exact B2.alloc _
  have C3 : Blk w3 (w.heap.size + 2) 35 #[.int .i64 s.z.x0, .int .i64 s.z.x1, .int .i64 s.z.x2, .int .i64 s.z.x3, .int .i64 s.z.x4, .int .i64 s.z.x5, .int .i64 s.z.x6, .int .i64 s.z.x7, .int .i64 s.z.x8] := by rw [hw3, ← s2]; exact Blk.new _ _ _
  have Z3 : Blk w3 (w.heap.size + 1) 48 #[.int .i64 0, .int .i64 0, .int .i64 0, .int .i64 0, .int .i64 0, .bool false, .int .i64 0, .int .i64 0, .int .i64 0, .int .u64 0, .int .u64 0, .int .u64 0, .int .u64 0, .slice none 0 0, .int .i64 0, .int .i64 0, .int .i64 0, .int .i64 0, .int .i64 0, .int .i64 0, .int .i64 0, .int .i64 0, .int .i64 0, .slice none 0 0] := by rw [hw3]; exact Z2.alloc _
  have s3 : w3.heap.size = w.heap.size + 3 := by rw [hw3, World.size_alloc, s2]
  have d3 : Below w.heap.size w w3 := by rw [hw3]; exact keep_alloc d2 _
  obtain ⟨w4, hw4⟩ : ∃ x, x = (w3.alloc (.cells #[.int .i64 0, .int .i64 0, .int .i64 0, .int .i64 0, .int .i64 0, .bool false, .int .i64 0, .int .i64 0, .int .i64 0, .int .u64 0, .int .u64 0, .int .u64 0, .int .u64 0, .slice none 0 0, .int .i64 0, .int .i64 0, .int .i64 0, .int .i64 0, .int .i64 0, .int .i64 0, .int .i64 0, .int .i64 0, .int .i64 0, .slice none 0 0] 48)).setCells (w.heap.size + 3) 0 cO.toList := ⟨_, rfl⟩
  have hth : (w3.alloc (.cells #[.int .i64 0, .int .i64 0, .int .i64 0, .int .i64 0, .int .i64 0, .bool false, .int .i64 0, .int .i64 0, .int .i64 0, .int .u64 0, .int .u64 0, .int .u64 0, .int .u64 0, .slice none 0 0, .int .i64 0, .int .i64 0, .int .i64 0, .int .i64 0, .int .i64 0, .int .i64 0, .int .i64 0, .int .i64 0, .int .i64 0, .slice none 0 0] 48)).there (w.heap.size + 3) 0 cO.size := by rw [← s3]; exact (Blk.new w3 _ _).there (by rw [hcO]; exact Nat.le_refl 24)
  have D4 : Blk w4 (w.heap.size + 3) 48 cO := by rw [hw4, ← s3]; exact (Blk.new w3 _ _).putAll cO (by rw [hcO]; rfl)
  have B4 : Blk w4 w.heap.size 38 cA := by rw [hw4]; exact (B3.alloc _).fars (by omega) _ _
  have Z4 : Blk w4 (w.heap.size + 1) 48 #[.int .i64 0, .int .i64 0, .int .i64 0, .int .i64 0, .int .i64 0, .bool false, .int .i64 0, .int .i64 0, .int .i64 0, .int .u64 0, .int .u64 0, .int .u64 0, .int .u64 0, .slice none 0 0, .int .i64 0, .int .i64 0, .int .i64 0, .int .i64 0, .int .i64 0, .int .i64 0, .int .i64 0, .int .i64 0, .int .i64 0, .slice none 0 0] := by rw [hw4]; exact (Z3.alloc _).fars (by omega) _ _
  have d4 : Below w.heap.size w w4 := by rw [hw4]; exact below_sets _ _ (keep_alloc d3 _) (by omega)
  have s4 : w4.heap.size = w.heap.size + 4 := by rw [hw4, sets_size, World.size_alloc, s3]
  have HC := Lib.hid hcA
  have HO := Lib.hid hcO
  have b2 : ∀ i v, cA[i]? = some v → w2.cell? ⟨w.heap.size, i, none⟩ = some v := fun i v hv => B2.at_ hv
  have b3 : ∀ i v, cA[i]? = some v → w3.cell? ⟨w.heap.size, i, none⟩ = some v := fun i v hv => B3.at_ hv
  rw [hcA] at b2 b3
  have e0 : w3.cell? ⟨w.heap.size, 0, none⟩ = some (.int .i64 s.n) := b3 0 _ rfl
  have e1 : w3.cell? ⟨w.heap.size, 1, none⟩ = some (.int .i64 s.p.ag) := b3 1 _ rfl
  have e2 : w3.cell? ⟨w.heap.size, 2, none⟩ = some (.int .i64 s.p.aa) := b3 2 _ rfl
  have e3 : w3.cell? ⟨w.heap.size, 3, none⟩ = some (.int .i64 s.p.bg) := b3 3 _ rfl
  have e4 : w3.cell? ⟨w.heap.size, 4, none⟩ = some (.int .i64 s.p.ba) := b3 4 _ rfl
  have e5 : w3.cell? ⟨w.heap.size, 5, none⟩ = some (.bool s.p.two) := b3 5 _ rfl
  have e6 : w3.cell? ⟨w.heap.size, 6, none⟩ = some (.int .i64 s.p.size) := b3 6 _ rfl
  have e7 : w3.cell? ⟨w.heap.size, 7, none⟩ = some (.int .i64 s.p.level) := b3 7 _ rfl
  have e8 : w3.cell? ⟨w.heap.size, 8, none⟩ = some (.int .i64 s.p.birth) := b3 8 _ rfl
  have e9 : w3.cell? ⟨w.heap.size, 9, none⟩ = some (.int .u64 s.p.s0) := b3 9 _ rfl
  have e10 : w3.cell? ⟨w.heap.size, 10, none⟩ = some (.int .u64 s.p.s1) := b3 10 _ rfl
  have e11 : w3.cell? ⟨w.heap.size, 11, none⟩ = some (.int .u64 s.p.s2) := b3 11 _ rfl
  have e12 : w3.cell? ⟨w.heap.size, 12, none⟩ = some (.int .u64 s.p.s3) := b3 12 _ rfl
  have g14 : w2.cell? ⟨w.heap.size, 14, none⟩ = some (.int .i64 s.z.x0) := b2 14 _ rfl
  have g15 : w2.cell? ⟨w.heap.size, 15, none⟩ = some (.int .i64 s.z.x1) := b2 15 _ rfl
  have g16 : w2.cell? ⟨w.heap.size, 16, none⟩ = some (.int .i64 s.z.x2) := b2 16 _ rfl
  have g17 : w2.cell? ⟨w.heap.size, 17, none⟩ = some (.int .i64 s.z.x3) := b2 17 _ rfl
  have g18 : w2.cell? ⟨w.heap.size, 18, none⟩ = some (.int .i64 s.z.x4) := b2 18 _ rfl
  have g19 : w2.cell? ⟨w.heap.size, 19, none⟩ = some (.int .i64 s.z.x5) := b2 19 _ rfl
  have g20 : w2.cell? ⟨w.heap.size, 20, none⟩ = some (.int .i64 s.z.x6) := b2 20 _ rfl
  have g21 : w2.cell? ⟨w.heap.size, 21, none⟩ = some (.int .i64 s.z.x7) := b2 21 _ rfl
  have g22 : w2.cell? ⟨w.heap.size, 22, none⟩ = some (.int .i64 s.z.x8) := b2 22 _ rfl
  have k0 : w3.cell? ⟨w.heap.size + 2, 0, none⟩ = some (.int .i64 s.z.x0) := C3.at_ (i := 0) rfl
  have k1 : w3.cell? ⟨w.heap.size + 2, 1, none⟩ = some (.int .i64 s.z.x1) := C3.at_ (i := 1) rfl
  have k2 : w3.cell? ⟨w.heap.size + 2, 2, none⟩ = some (.int .i64 s.z.x2) := C3.at_ (i := 2) rfl
  have k3 : w3.cell? ⟨w.heap.size + 2, 3, none⟩ = some (.int .i64 s.z.x3) := C3.at_ (i := 3) rfl
  have k4 : w3.cell? ⟨w.heap.size + 2, 4, none⟩ = some (.int .i64 s.z.x4) := C3.at_ (i := 4) rfl
  have k5 : w3.cell? ⟨w.heap.size + 2, 5, none⟩ = some (.int .i64 s.z.x5) := C3.at_ (i := 5) rfl
  have k6 : w3.cell? ⟨w.heap.size + 2, 6, none⟩ = some (.int .i64 s.z.x6) := C3.at_ (i := 6) rfl
  have k7 : w3.cell? ⟨w.heap.size + 2, 7, none⟩ = some (.int .i64 s.z.x7) := C3.at_ (i := 7) rfl
  have k8 : w3.cell? ⟨w.heap.size + 2, 8, none⟩ = some (.int .i64 s.z.x8) := C3.at_ (i := 8) rfl
  have HB4 := Lib.hid B4
  have HD4 := Lib.hid D4
  have HZ4 := Lib.hid Z4
  have Hd4 := Lib.hid d4
  clear b2 b3 B1 B2 B3 C3 Z2 Z3 Z4 B4 D4 d2 d3 d4 hcA hcO
  replace hw2 := hw2.symm
  replace hw3 := hw3.symm
  replace hw4 := hw4.symm
  go_enter Tryz.func8, Tryz.ntmps8
  go_wp2_with (first
    | ((with_reducible refine wpList_build_want ?bq 48 #[(0, .tmp 10), (2, .tmp 29)] ?r2 #[(0, .agg #[.int .i64 s.n, .int .i64 s.p.ag, .int .i64 s.p.aa, .int .i64 s.p.bg, .int .i64 s.p.ba, .bool s.p.two, .int .i64 s.p.size, .int .i64 s.p.level, .int .i64 s.p.birth, .int .u64 s.p.s0, .int .u64 s.p.s1, .int .u64 s.p.s2, .int .u64 s.p.s3]), (2, .agg #[.int .i64 s.z.x0, .int .i64 s.z.x1, .int .i64 s.z.x2, .int .i64 s.z.x3, .int .i64 s.z.x4, .int .i64 s.z.x5, .int .i64 s.z.x6, .int .i64 s.z.x7, .int .i64 s.z.x8])] ?r3 (.agg cO) (hib _) ?_); (case r2 => rfl); (case r3 => simp [Act.eval, Act.put]); (case bq => rfl))
    | ((with_reducible refine wpList_store_mid ?a1 48 (.tmp 4) (.tmp 30) ?a2 (w.heap.size + 3) 0 cO ?a3 ?a4 hth hi43 h1c ?_); (case a1 => rfl); (case a2 => rfl); (case a3 => rfl); (case a4 => rfl)))
  clear e0 e1 e2 e3 e4 e5 e6 e7 e8 e9 e10 e11 e12 g14 g15 g16 g17 g18 g19 g20 g21 g22 k0 k1 k2 k3 k4 k5 k6 k7 k8 hw2 hw3 hw4 hth hib hi43 h1c s2 s3
  obtain ⟨i0, hi, hz0, hz1, hz2⟩ := info_parts Tryz.infoMSnap
  obtain ⟨j0, hj, hy0, hy1, hy2⟩ := info_parts Tryz.infoRange
  have HO4 : Hid (Blk w4 (w.heap.size + 3) 48 (stC s nilV nilV)) := Lib.hid (by rw [← HO.out]; exact HD4.out)
  have HA4 : Hid (Blk w4 w.heap.size 38 (stC s (.slice A1 s.snaps.length c1) (.slice A2 s.stale.length c2))) := Lib.hid (by rw [← HC.out]; exact HB4.out)
  have HS4 := Lib.hid s4
  clear HD4 HB4 s4
  go_loopw [5] (fun t wr => ∃ (k : Nat) (sv' : Value), k ≤ s.snaps.length ∧ t = .int .i64 k ∧ Below w.heap.size w wr ∧ Blk wr w.heap.size 38 (stC s (.slice A1 s.snaps.length c1) (.slice A2 s.stale.length c2)) ∧
      Blk wr (w.heap.size + 3) 48 (stC s sv' nilV) ∧ Blk wr (w.heap.size + 1) 48 #[.int .i64 0, .int .i64 0, .int .i64 0, .int .i64 0, .int .i64 0, .bool false, .int .i64 0, .int .i64 0, .int .i64 0, .int .u64 0, .int .u64 0, .int .u64 0, .int .u64 0, .slice none 0 0, .int .i64 0, .int .i64 0, .int .i64 0, .int .i64 0, .int .i64 0, .int .i64 0, .int .i64 0, .int .i64 0, .int .i64 0, .slice none 0 0] ∧ wr.ownsRow (w.heap.size + 4) 75 15 sv' k (snapC (s.snaps.take k)) ∧ w.heap.size + 4 ≤ wr.heap.size) (fun t _ => s.snaps.length - (RowKit.intOf t).toNat)
  case atStart => exact ⟨0, nilV, Nat.zero_le _, rfl, Hd4.out, HA4.out, HO4.out, HZ4.out, World.ownsRow_nil _ _ _ _, by rw [HS4.out]; exact Nat.le_refl _⟩
  case round =>
    obtain ⟨k, sv', hk, rfl, hbw, hbA, hbO, hbZ, hrow, hsz⟩ := hrel
    have HBW := Lib.hid hbw
    have HA := Lib.hid hbA
    have HO := Lib.hid hbO
    have HZ := Lib.hid hbZ
    have HROW := Lib.hid hrow
    have HSZ := Lib.hid hsz
    have q13 : wr.cell? ⟨w.heap.size, 13, none⟩ = some (.slice A1 s.snaps.length c1) := hbA.at_ rfl
    clear hbw hbA hbO hbZ hrow hsz HA4 HO4 HZ4 Hd4 HS4
    by_cases hlt : k < s.snaps.length
    · obtain ⟨b, o, rfl, hbl, hcell⟩ := H.out.snaps.cells (by omega)
      obtain ⟨x, hx⟩ : ∃ x, s.snaps[k]? = some x := ⟨_, List.getElem?_eq_getElem hlt⟩
      have hsn : ∀ j u, j < 15 → (snapL x)[j]? = some u → wr.cell? ⟨b, o + k * 15 + j, none⟩ = some u := fun j u hj hu => by
        rw [Nat.add_assoc]
        exact (World.cell?_of_block (HBW.out.block b hbl)).trans <| hcell _ _ ((flat_at snapL 15 (fun _ => rfl) s.snaps k x hx j hj).trans hu)
      have hdc : decide (k < s.snaps.length) = true := decide_eq_true hlt
      have HLT := Lib.hid hlt
      have HX := Lib.hid hx
      clear hcell hx
      repeat' (first
        | go_values
        | go_skip
        | go_guarded
        | ((fail_if_success (with_reducible refine drawn_mark ?_))
           first
             | go_step
             | go_upon
             | go_back
             | (simp only [Int.not_lt, Int.not_le] at *; go_simp)
             | (go_values <;> (try go_simp))
             | (go_ite <;> go_prune <;> (try go_simp))
             | (split <;> (first | (rename_i hx; exact (hx _ rfl).elim) | go_prune))))
      obtain ⟨S0, hS0⟩ : ∃ S0 : World → Prop, S0 = fun W => W.heap[w.heap.size]? = wr.heap[w.heap.size]? ∧ W.heap[w.heap.size + 3]? = wr.heap[w.heap.size + 3]? ∧ W.heap[b]? = wr.heap[b]? := ⟨_, rfl⟩
      have f15 : ∀ W, S0 W → W.cell? ⟨w.heap.size, 13, none⟩ = some (.slice (some ⟨b, o, none⟩) s.snaps.length c1) := fun W hW => by rw [hS0] at hW; exact (show Blk W _ _ _ from hW.1.trans HA.out).at_ rfl
      have f16 : ∀ W, S0 W → W.cell? ⟨w.heap.size + 3, 13, none⟩ = some sv' := fun W hW => by rw [hS0] at hW; exact (show Blk W _ _ _ from hW.2.1.trans HO.out).at_ rfl
      have hsn2 : ∀ W, S0 W → ∀ j u, j < 15 → (snapL x)[j]? = some u → W.cell? ⟨b, o + k * 15 + j, none⟩ = some u := fun W hW j u hj hu => by rw [hS0] at hW; exact (World.cell?_of_block hW.2.2).trans (hsn j u hj hu)
      have f0 : ∀ W, S0 W → W.cell? ⟨b, o + k * 15, none⟩ = some (.int .i64 x.id) := fun W hW => hsn2 W hW 0 _ (by omega) rfl
      have f1 : ∀ W, S0 W → W.cell? ⟨b, o + k * 15 + 1, none⟩ = some (.int .i64 x.txg) := fun W hW => hsn2 W hW 1 _ (by omega) rfl
      have f2 : ∀ W, S0 W → W.cell? ⟨b, o + k * 15 + 2, none⟩ = some (.int .i64 x.n) := fun W hW => hsn2 W hW 2 _ (by omega) rfl
      have f3 : ∀ W, S0 W → W.cell? ⟨b, o + k * 15 + 3, none⟩ = some (.int .i64 x.p.ag) := fun W hW => hsn2 W hW 3 _ (by omega) rfl
      have f4 : ∀ W, S0 W → W.cell? ⟨b, o + k * 15 + 4, none⟩ = some (.int .i64 x.p.aa) := fun W hW => hsn2 W hW 4 _ (by omega) rfl
      have f5 : ∀ W, S0 W → W.cell? ⟨b, o + k * 15 + 5, none⟩ = some (.int .i64 x.p.bg) := fun W hW => hsn2 W hW 5 _ (by omega) rfl
      have f6 : ∀ W, S0 W → W.cell? ⟨b, o + k * 15 + 6, none⟩ = some (.int .i64 x.p.ba) := fun W hW => hsn2 W hW 6 _ (by omega) rfl
      have f7 : ∀ W, S0 W → W.cell? ⟨b, o + k * 15 + 7, none⟩ = some (.bool x.p.two) := fun W hW => hsn2 W hW 7 _ (by omega) rfl
      have f8 : ∀ W, S0 W → W.cell? ⟨b, o + k * 15 + 8, none⟩ = some (.int .i64 x.p.size) := fun W hW => hsn2 W hW 8 _ (by omega) rfl
      have f9 : ∀ W, S0 W → W.cell? ⟨b, o + k * 15 + 9, none⟩ = some (.int .i64 x.p.level) := fun W hW => hsn2 W hW 9 _ (by omega) rfl
      have f10 : ∀ W, S0 W → W.cell? ⟨b, o + k * 15 + 10, none⟩ = some (.int .i64 x.p.birth) := fun W hW => hsn2 W hW 10 _ (by omega) rfl
      have f11 : ∀ W, S0 W → W.cell? ⟨b, o + k * 15 + 11, none⟩ = some (.int .u64 x.p.s0) := fun W hW => hsn2 W hW 11 _ (by omega) rfl
      have f12 : ∀ W, S0 W → W.cell? ⟨b, o + k * 15 + 12, none⟩ = some (.int .u64 x.p.s1) := fun W hW => hsn2 W hW 12 _ (by omega) rfl
      have f13 : ∀ W, S0 W → W.cell? ⟨b, o + k * 15 + 13, none⟩ = some (.int .u64 x.p.s2) := fun W hW => hsn2 W hW 13 _ (by omega) rfl
      have f14 : ∀ W, S0 W → W.cell? ⟨b, o + k * 15 + 14, none⟩ = some (.int .u64 x.p.s3) := fun W hW => hsn2 W hW 14 _ (by omega) rfl
      have hSw : S0 wr.drew := by rw [hS0]; exact ⟨rfl, rfl, rfl⟩
      have hS2 : ∀ W, W.heap[w.heap.size]? = wr.heap[w.heap.size]? → W.heap[w.heap.size + 3]? = wr.heap[w.heap.size + 3]? → W.heap[b]? = wr.heap[b]? → S0 W := fun W a b c => by rw [hS0]; exact ⟨a, b, c⟩
      have HSS := Lib.hid hS2
      have HBL := Lib.hid hbl
      clear hS0 hS2 hsn hsn2 hbl q13
      refine wp_region_eff S0 [21, 22] 24 (by kernel_rfl) (by kernel_rfl) (by kernel_rfl) hSw ?_
      simp only [List.take_succ_cons, List.take_zero, List.drop_succ_cons, List.drop_zero]
      refine wpLexE_take 21 (by kernel_rfl) (by kernel_rfl) ?_
      simp only [List.take_succ_cons, List.take_zero, List.drop_succ_cons, List.drop_zero]
      repeat (first
        | go_big_quiet_skip
        | (go_big_quiet_want
           go_big_quiet_op
           first
             | go_big_quiet_on
             | (apply Exists.intro
                refine ⟨fun W hW => ?_, ?_⟩
                · first
                    | exact rfl
                    | exact ⟨rfl, rfl⟩
                    | (have e0 := f15 W hW; have e1 := f16 W hW; have e2 := f0 W hW; have e3 := f1 W hW; have e4 := f2 W hW; have e5 := f3 W hW; have e6 := f4 W hW; have e7 := f5 W hW; have e8 := f6 W hW; have e9 := f7 W hW; have e10 := f8 W hW; have e11 := f9 W hW; have e12 := f10 W hW; have e13 := f11 W hW; have e14 := f12 W hW; have e15 := f13 W hW; have e16 := f14 W hW; simp only [e0, e1, e2, e3, e4, e5, e6, e7, e8, e9, e10, e11, e12, e13, e14, e15, e16, Result.andThen_ok]; done)
                    | (have e0 := f15 W hW; have e1 := f16 W hW; have e2 := f0 W hW; have e3 := f1 W hW; have e4 := f2 W hW; have e5 := f3 W hW; have e6 := f4 W hW; have e7 := f5 W hW; have e8 := f6 W hW; have e9 := f7 W hW; have e10 := f8 W hW; have e11 := f9 W hW; have e12 := f10 W hW; have e13 := f11 W hW; have e14 := f12 W hW; have e15 := f13 W hW; have e16 := f14 W hW; simp only [e0, e1, e2, e3, e4, e5, e6, e7, e8, e9, e10, e11, e12, e13, e14, e15, e16, Result.andThen_ok]; first | exact ⟨trivial, rfl⟩ | exact rfl | exact ⟨rfl, rfl⟩)
                    | (skip)
                go_big_quiet_on)))
      refine wpQuiet_nil ?_
      show wpLexE _ _ _ _ _ _ _ _ _
      refine wpLexE_eff (by kernel_rfl) rfl ?_
      go_wp2_with fail
      have hx7 : ∀ (X : Obj) i, i < wr.heap.size → (wr.drew.alloc X).heap[i]? = wr.heap[i]? := fun X i hi => Below.heap_alloc wr.drew X i hi
      have e0 : w.heap.size < wr.heap.size := HA.out.lt
      have e3 : w.heap.size + 3 < wr.heap.size := HO.out.lt
      refine ⟨rfl, HSS.out _ (hx7 _ _ e0) (hx7 _ _ e3) (hx7 _ _ (by have := HBL.out; omega)), ?_⟩
      have hrow7 : (wr.drew.alloc (.cells #[.int .i64 x.id, .int .i64 x.txg, .int .i64 x.n, .int .i64 x.p.ag, .int .i64 x.p.aa, .int .i64 x.p.bg, .int .i64 x.p.ba, .bool x.p.two, .int .i64 x.p.size, .int .i64 x.p.level, .int .i64 x.p.birth, .int .u64 x.p.s0, .int .u64 x.p.s1, .int .u64 x.p.s2, .int .u64 x.p.s3] 75)).ownsRow (w.heap.size + 4) 75 15 sv' k (snapC (s.snaps.take k)) :=
        ownsRow_same HROW.out (fun b e => hx7 _ b (HROW.out.lt b e).2)
      refine wpLexE_eff (by kernel_rfl) rfl ?_
      refine wpList_append_own_at _ rfl (.tmp 39) (.tmp 59) 43 rfl (w.heap.size + 4) 75 i0 _ 15 120 Tryz.underlying43 hi hz0 hz1 hz2 rfl (by decide) _ _ _ rfl hrow7 ⟨wr.heap.size, 0, none⟩ 1 1 (snapL x) rfl rfl ?c1 ?c2 (by unfold maxLen; omega) (by omega) (by have := HSZ.out; simp; omega) ?_
      case c1 =>
        intro j u hj
        rw [Addr.add_mid, Nat.zero_add]
        exact (Blk.new wr.drew 75 #[.int .i64 x.id, .int .i64 x.txg, .int .i64 x.n, .int .i64 x.p.ag, .int .i64 x.p.aa, .int .i64 x.p.bg, .int .i64 x.p.ba, .bool x.p.two, .int .i64 x.p.size, .int .i64 x.p.level, .int .i64 x.p.birth, .int .u64 x.p.s0, .int .u64 x.p.s1, .int .u64 x.p.s2, .int .u64 x.p.s3]).at_ (by simpa [snapL] using hj)
      case c2 => intro u hu; simp only [snapL, List.mem_cons, List.not_mem_nil, or_false] at hu; rcases hu with rfl | rfl | rfl | rfl | rfl | rfl | rfl | rfl | rfl | rfl | rfl | rfl | rfl | rfl | rfl <;> rfl
      intro v' w8 hown' hgrow hnil hloc
      obtain ⟨gn, cap8, rfl, _, _⟩ := hown'.form (by omega)
      have hnb : ∀ y, sv'.ownBlock = some y → w.heap.size + 4 ≤ y := fun y e => (HROW.out.lt y e).1
      have g8 : ∀ i, i < w.heap.size + 4 → w8.heap[i]? = wr.heap[i]? := fun i hi => (hgrow.block i (by have := HSZ.out; simp; omega) (fun e => by have := hnb i e.symm; omega)).trans (hx7 _ i (by have := HSZ.out; omega))
      have hsz8 : w.heap.size + 4 ≤ w8.heap.size := by have := hgrow.size; have := HSZ.out; simp at *; omega
      have hSw8 : S0 w8 := HSS.out _ (g8 _ (by omega)) (g8 _ (by omega)) (g8 _ (by have := HBL.out; omega))
      refine ⟨rfl, hSw8, ?_⟩
      have HO8 : Hid (Blk w8 (w.heap.size + 3) 48 (stC s sv' nilV)) := Lib.hid ((g8 _ (by omega)).trans HO.out)
      have HA8 : Hid (Blk w8 w.heap.size 38 _) := Lib.hid ((g8 _ (by omega)).trans HA.out)
      have HZ8 : Hid (Blk w8 (w.heap.size + 1) 48 _) := Lib.hid ((g8 _ (by omega)).trans HZ.out)
      have HBW8 : Hid (Below w.heap.size w w8) := Lib.hid ((keep_alloc (below_drew' HBW.out) _).grown hgrow (by simp; omega) (fun y e => by have := hnb y e; omega))
      have c80 := f16 w8 hSw8
      have z80 : w8.frozen? ⟨w.heap.size + 3, 13, none⟩ = false := HO8.out.fr 13
      have HOWN := Lib.hid hown'
      have HS8 := Lib.hid hsz8
      have HN := Lib.hid hnb
      have hvb : w.heap.size + 4 ≤ gn := (hown'.lt gn rfl).1
      have HVB := Lib.hid hvb
      clear hrow7 hown' hgrow hnil hloc g8 hnb hsz8 hx7 e0 e3 hvb
      simp only [Act.put, List.setIfInBounds_toArray, List.set_cons_zero, List.set_cons_succ]
      refine wpLexE_take 1 (by kernel_rfl) (by kernel_rfl) ?_
      simp only [List.take_succ_cons, List.take_zero, List.drop_succ_cons, List.drop_zero]
      repeat (first
        | go_big_quiet_skip
        | (go_big_quiet_want
           go_big_quiet_op
           first
             | go_big_quiet_on
             | (apply Exists.intro
                refine ⟨fun W hW => ?_, ?_⟩
                · first
                    | exact rfl
                    | exact ⟨rfl, rfl⟩
                    | (have e0 := f15 W hW; have e1 := f16 W hW; simp only [e0, e1, Result.andThen_ok]; done)
                    | (have e0 := f15 W hW; have e1 := f16 W hW; simp only [e0, e1, Result.andThen_ok]; first | exact ⟨trivial, rfl⟩ | exact rfl | exact ⟨rfl, rfl⟩)
                    | (skip)
                go_big_quiet_on)))
      refine wpQuiet_nil ?_
      show wpList _ _ _ _ _ _
      clear f0 f1 f2 f3 f4 f5 f6 f7 f8 f9 f10 f11 f12 f13 f14 f15 f16 hSw hSw8
      go_wp2_with fail
      obtain ⟨w9, hw9⟩ : ∃ y, y = w8.setCell ⟨w.heap.size + 3, 13, none⟩ (.slice (some ⟨gn, 0, none⟩) (k + 1) cap8) := ⟨_, rfl⟩
      have g9 : ∀ i, i ≠ w.heap.size + 3 → w9.heap[i]? = w8.heap[i]? := fun i hi => by rw [hw9]; exact Below.heap_setCell w8 ⟨w.heap.size + 3, 13, none⟩ _ i hi
      have hO9 : Blk w9 (w.heap.size + 3) 48 (stC s (.slice (some ⟨gn, 0, none⟩) (k + 1) cap8) nilV) := by rw [hw9, ← stC_13 s sv']; exact HO8.out.put 13 _
      have hs9 : w9.heap.size = w8.heap.size := by rw [hw9]; simp [World.setCell]
      have hb9 : Below w.heap.size w w9 := by rw [hw9]; exact below_set HBW8.out _ _ _ (by omega)
      rw [← hw9]
      have htk : s.snaps.take (k + 1) = s.snaps.take k ++ [x] := by rw [List.take_add_one, HX.out]; rfl
      go_roundw
      case rel =>
        refine ⟨k + 1, _, HLT.out, by go_num, hb9, (g9 _ (by omega)).trans HA8.out, hO9, (g9 _ (by omega)).trans HZ8.out, ?_, by rw [hs9]; exact HS8.out⟩
        rw [htk, snapC_snoc]
        exact ownsRow_same HOWN.out (fun y e => by cases e; exact g9 gn (by have := HVB.out; omega))
      case measure => have := HLT.out; simp [RowKit.intOf]; omega
    · obtain rfl : k = s.snaps.length := by omega
      have hdc : decide ((s.snaps.length : Int) < s.snaps.length) = false := decide_eq_false (by omega)
      go_wp2_with fail
      have hk1 : s.snaps.take s.snaps.length = s.snaps := List.take_length
      have HR1 : Hid (wr.ownsRow (w.heap.size + 4) 75 15 sv' s.snaps.length (snapC s.snaps)) := Lib.hid (by rw [hk1] at HROW; exact HROW.out)
      obtain ⟨B2, hB2⟩ : ∃ B2, B2 = wr.heap.size := ⟨_, rfl⟩
      have HB2 : Hid (w.heap.size + 4 ≤ B2 ∧ ∀ y, sv'.ownBlock = some y → w.heap.size + 4 ≤ y ∧ y < B2) := Lib.hid ⟨by rw [hB2]; exact HSZ.out, fun y e => by have := HR1.out.lt y e; omega⟩
      have hst : wr.ownsRow B2 61 2 nilV 0 (staC (s.stale.take 0)) := World.ownsRow_nil _ _ _ _
      have hle : B2 ≤ wr.heap.size := by omega
      clear q13 HROW HSZ hk1 hB2 hlt hdc hk
      go_loopw [6] (fun t wr => ∃ (k : Nat) (tv' : Value), k ≤ s.stale.length ∧ t = .int .i64 k ∧ Below w.heap.size w wr ∧ Blk wr w.heap.size 38 (stC s (.slice A1 s.snaps.length c1) (.slice A2 s.stale.length c2)) ∧
        Blk wr (w.heap.size + 3) 48 (stC s sv' tv') ∧ Blk wr (w.heap.size + 1) 48 #[.int .i64 0, .int .i64 0, .int .i64 0, .int .i64 0, .int .i64 0, .bool false, .int .i64 0, .int .i64 0, .int .i64 0, .int .u64 0, .int .u64 0, .int .u64 0, .int .u64 0, .slice none 0 0, .int .i64 0, .int .i64 0, .int .i64 0, .int .i64 0, .int .i64 0, .int .i64 0, .int .i64 0, .int .i64 0, .int .i64 0, .slice none 0 0] ∧ wr.ownsRow (w.heap.size + 4) 75 15 sv' s.snaps.length (snapC s.snaps) ∧ wr.ownsRow B2 61 2 tv' k (staC (s.stale.take k)) ∧ B2 ≤ wr.heap.size) (fun t _ => s.stale.length - (RowKit.intOf t).toNat)
      case atStart => exact ⟨0, nilV, Nat.zero_le _, rfl, HBW.out, HA.out, HO.out, HZ.out, HR1.out, hst, hle⟩
      case round =>
        clear HBW HA HO HZ HR1 hst hle
        obtain ⟨k, tv', hk, rfl, hbw, hbA, hbO, hbZ, hrow1, hrow, hsz⟩ := hrel
        have HBW := Lib.hid hbw
        have HA := Lib.hid hbA
        have HO := Lib.hid hbO
        have HZ := Lib.hid hbZ
        have HR1 := Lib.hid hrow1
        have HROW := Lib.hid hrow
        have HSZ := Lib.hid hsz
        have q23 : wr.cell? ⟨w.heap.size, 23, none⟩ = some (.slice A2 s.stale.length c2) := hbA.at_ rfl
        clear hbw hbA hbO hbZ hrow1 hrow hsz
        by_cases hlt : k < s.stale.length
        · obtain ⟨b, o, rfl, hbl, hcell⟩ := H.out.stale.cells (by omega)
          obtain ⟨x, hx⟩ : ∃ x, s.stale[k]? = some x := ⟨_, List.getElem?_eq_getElem hlt⟩
          have hsn : ∀ j u, j < 2 → (staL x)[j]? = some u → wr.cell? ⟨b, o + k * 2 + j, none⟩ = some u := fun j u hj hu => by
            rw [Nat.add_assoc]
            exact (World.cell?_of_block (HBW.out.block b hbl)).trans <| hcell _ _ ((flat_at staL 2 (fun _ => rfl) s.stale k x hx j hj).trans hu)
          have hdc : decide (k < s.stale.length) = true := decide_eq_true hlt
          have HLT := Lib.hid hlt
          have HX := Lib.hid hx
          clear hcell hx
          repeat' (first
            | go_values
            | go_skip
            | go_guarded
            | ((fail_if_success (with_reducible refine drawn_mark ?_))
               first
                 | go_step
                 | go_upon
                 | go_back
                 | (simp only [Int.not_lt, Int.not_le] at *; go_simp)
                 | (go_values <;> (try go_simp))
                 | (go_ite <;> go_prune <;> (try go_simp))
                 | (split <;> (first | (rename_i hx; exact (hx _ rfl).elim) | go_prune))))
          obtain ⟨S0, hS0⟩ : ∃ S0 : World → Prop, S0 = fun W => W.heap[w.heap.size]? = wr.heap[w.heap.size]? ∧ W.heap[w.heap.size + 3]? = wr.heap[w.heap.size + 3]? ∧ W.heap[b]? = wr.heap[b]? := ⟨_, rfl⟩
          have f15 : ∀ W, S0 W → W.cell? ⟨w.heap.size, 23, none⟩ = some (.slice (some ⟨b, o, none⟩) s.stale.length c2) := fun W hW => by rw [hS0] at hW; exact (show Blk W _ _ _ from hW.1.trans HA.out).at_ rfl
          have f16 : ∀ W, S0 W → W.cell? ⟨w.heap.size + 3, 23, none⟩ = some tv' := fun W hW => by rw [hS0] at hW; exact (show Blk W _ _ _ from hW.2.1.trans HO.out).at_ rfl
          have hsn2 : ∀ W, S0 W → ∀ j u, j < 2 → (staL x)[j]? = some u → W.cell? ⟨b, o + k * 2 + j, none⟩ = some u := fun W hW j u hj hu => by rw [hS0] at hW; exact (World.cell?_of_block hW.2.2).trans (hsn j u hj hu)
          have f0 : ∀ W, S0 W → W.cell? ⟨b, o + k * 2, none⟩ = some (.int .i64 x.1) := fun W hW => hsn2 W hW 0 _ (by omega) rfl
          have f1 : ∀ W, S0 W → W.cell? ⟨b, o + k * 2 + 1, none⟩ = some (.int .i64 x.2) := fun W hW => hsn2 W hW 1 _ (by omega) rfl
          have hSw : S0 wr.drew := by rw [hS0]; exact ⟨rfl, rfl, rfl⟩
          have hS2 : ∀ W, W.heap[w.heap.size]? = wr.heap[w.heap.size]? → W.heap[w.heap.size + 3]? = wr.heap[w.heap.size + 3]? → W.heap[b]? = wr.heap[b]? → S0 W := fun W a b c => by rw [hS0]; exact ⟨a, b, c⟩
          have HSS := Lib.hid hS2
          have HBL := Lib.hid hbl
          clear hS0 hS2 hsn hsn2 hbl q23
          refine wp_region_eff S0 [15, 16] 18 (by kernel_rfl) (by kernel_rfl) (by kernel_rfl) hSw ?_
          simp only [List.take_succ_cons, List.take_zero, List.drop_succ_cons, List.drop_zero]
          refine wpLexE_take 15 (by kernel_rfl) (by kernel_rfl) ?_
          simp only [List.take_succ_cons, List.take_zero, List.drop_succ_cons, List.drop_zero]
          repeat (first
            | go_big_quiet_skip
            | (go_big_quiet_want
               go_big_quiet_op
               first
                 | go_big_quiet_on
                 | (apply Exists.intro
                    refine ⟨fun W hW => ?_, ?_⟩
                    · first
                        | exact rfl
                        | exact ⟨rfl, rfl⟩
                        | (have e0 := f15 W hW; have e1 := f16 W hW; have e2 := f0 W hW; have e3 := f1 W hW; simp only [e0, e1, e2, e3, Result.andThen_ok]; done)
                        | (have e0 := f15 W hW; have e1 := f16 W hW; have e2 := f0 W hW; have e3 := f1 W hW; simp only [e0, e1, e2, e3, Result.andThen_ok]; first | exact ⟨trivial, rfl⟩ | exact rfl | exact ⟨rfl, rfl⟩)
                        | (skip)
                    go_big_quiet_on)))
          refine wpQuiet_nil ?_
          show wpLexE _ _ _ _ _ _ _ _ _
          refine wpLexE_eff (by kernel_rfl) rfl ?_
          go_wp2_with fail
          have hx7 : ∀ (X : Obj) i, i < wr.heap.size → (wr.drew.alloc X).heap[i]? = wr.heap[i]? := fun X i hi => Below.heap_alloc wr.drew X i hi
          have e0 : w.heap.size < wr.heap.size := HA.out.lt
          have e3 : w.heap.size + 3 < wr.heap.size := HO.out.lt
          refine ⟨rfl, HSS.out _ (hx7 _ _ e0) (hx7 _ _ e3) (hx7 _ _ (by have := HBL.out; omega)), ?_⟩
          have hrow7 : (wr.drew.alloc (.cells #[.int .i64 x.1, .int .i64 x.2] 61)).ownsRow B2 61 2 tv' k (staC (s.stale.take k)) :=
            ownsRow_same HROW.out (fun b e => hx7 _ b (HROW.out.lt b e).2)
          refine wpLexE_eff (by kernel_rfl) rfl ?_
          refine wpList_append_own_at _ rfl (.tmp 70) (.tmp 84) 46 rfl B2 61 j0 _ 2 16 Tryz.underlying46 hj hy0 hy1 hy2 rfl (by decide) _ _ _ rfl hrow7 ⟨wr.heap.size, 0, none⟩ 1 1 (staL x) rfl rfl ?c1 ?c2 (by unfold maxLen; omega) (by omega) (by have := HSZ.out; simp; omega) ?_
          case c1 =>
            intro j u hj
            rw [Addr.add_mid, Nat.zero_add]
            exact (Blk.new wr.drew 61 #[.int .i64 x.1, .int .i64 x.2]).at_ (by simpa [staL] using hj)
          case c2 => intro u hu; simp only [staL, List.mem_cons, List.not_mem_nil, or_false] at hu; rcases hu with rfl | rfl <;> rfl
          intro v' w8 hown' hgrow hnil hloc
          obtain ⟨gn, cap8, rfl, _, _⟩ := hown'.form (by omega)
          have hnb : ∀ y, tv'.ownBlock = some y → B2 ≤ y := fun y e => (HROW.out.lt y e).1
          have g8 : ∀ i, i < B2 → w8.heap[i]? = wr.heap[i]? := fun i hi => (hgrow.block i (by have := HSZ.out; simp; omega) (fun e => by have := hnb i e.symm; omega)).trans (hx7 _ i (by have := HSZ.out; omega))
          have hsz8 : B2 ≤ w8.heap.size := by have := hgrow.size; have := HSZ.out; simp at *; omega
          have hb4 := HB2.out.1
          have hSw8 : S0 w8 := HSS.out _ (g8 _ (by omega)) (g8 _ (by omega)) (g8 _ (by have := HBL.out; omega))
          refine ⟨rfl, hSw8, ?_⟩
          have HO8 : Hid (Blk w8 (w.heap.size + 3) 48 (stC s sv' tv')) := Lib.hid ((g8 _ (by omega)).trans HO.out)
          have HA8 : Hid (Blk w8 w.heap.size 38 _) := Lib.hid ((g8 _ (by omega)).trans HA.out)
          have HZ8 : Hid (Blk w8 (w.heap.size + 1) 48 _) := Lib.hid ((g8 _ (by omega)).trans HZ.out)
          have HR8 : Hid (w8.ownsRow (w.heap.size + 4) 75 15 sv' s.snaps.length (snapC s.snaps)) := Lib.hid (ownsRow_same HR1.out (fun y e => g8 y (HB2.out.2 y e).2))
          have HBW8 : Hid (Below w.heap.size w w8) := Lib.hid ((keep_alloc (below_drew' HBW.out) _).grown hgrow (by simp; omega) (fun y e => by have := hnb y e; omega))
          have c80 := f16 w8 hSw8
          have z80 : w8.frozen? ⟨w.heap.size + 3, 23, none⟩ = false := HO8.out.fr 23
          have HOWN := Lib.hid hown'
          have HS8 := Lib.hid hsz8
          have hvb : B2 ≤ gn := (hown'.lt gn rfl).1
          have HVB := Lib.hid hvb
          clear hrow7 hown' hgrow hnil hloc g8 hnb hsz8 hx7 e0 e3 hvb
          simp only [Act.put, List.setIfInBounds_toArray, List.set_cons_zero, List.set_cons_succ]
          refine wpLexE_take 1 (by kernel_rfl) (by kernel_rfl) ?_
          simp only [List.take_succ_cons, List.take_zero, List.drop_succ_cons, List.drop_zero]
          repeat (first
            | go_big_quiet_skip
            | (go_big_quiet_want
               go_big_quiet_op
               first
                 | go_big_quiet_on
                 | (apply Exists.intro
                    refine ⟨fun W hW => ?_, ?_⟩
                    · first
                        | exact rfl
                        | exact ⟨rfl, rfl⟩
                        | (have e0 := f15 W hW; have e1 := f16 W hW; simp only [e0, e1, Result.andThen_ok]; done)
                        | (have e0 := f15 W hW; have e1 := f16 W hW; simp only [e0, e1, Result.andThen_ok]; first | exact ⟨trivial, rfl⟩ | exact rfl | exact ⟨rfl, rfl⟩)
                        | (skip)
                    go_big_quiet_on)))
          refine wpQuiet_nil ?_
          show wpList _ _ _ _ _ _
          clear f0 f1 f15 f16 hSw hSw8
          go_wp2_with fail
          obtain ⟨w9, hw9⟩ : ∃ y, y = w8.setCell ⟨w.heap.size + 3, 23, none⟩ (.slice (some ⟨gn, 0, none⟩) (k + 1) cap8) := ⟨_, rfl⟩
          have g9 : ∀ i, i ≠ w.heap.size + 3 → w9.heap[i]? = w8.heap[i]? := fun i hi => by rw [hw9]; exact Below.heap_setCell w8 ⟨w.heap.size + 3, 23, none⟩ _ i hi
          have hO9 : Blk w9 (w.heap.size + 3) 48 (stC s sv' (.slice (some ⟨gn, 0, none⟩) (k + 1) cap8)) := by rw [hw9, ← stC_23 s sv' tv']; exact HO8.out.put 23 _
          have hs9 : w9.heap.size = w8.heap.size := by rw [hw9]; simp [World.setCell]
          have hb9 : Below w.heap.size w w9 := by rw [hw9]; exact below_set HBW8.out _ _ _ (by omega)
          rw [← hw9]
          have htk : s.stale.take (k + 1) = s.stale.take k ++ [x] := by rw [List.take_add_one, HX.out]; rfl
          go_roundw
          case rel =>
            refine ⟨k + 1, _, HLT.out, by go_num, hb9, (g9 _ (by omega)).trans HA8.out, hO9, (g9 _ (by omega)).trans HZ8.out, ownsRow_same HR8.out (fun y e => g9 y (by have := HB2.out.2 y e; omega)), ?_, by rw [hs9]; exact HS8.out⟩
            rw [htk, staC_snoc]
            exact ownsRow_same HOWN.out (fun y e => by cases e; exact g9 gn (by have := HVB.out; omega))
          case measure => have := HLT.out; simp [RowKit.intOf]; omega
        · obtain rfl : k = s.stale.length := by omega
          have hdc : decide ((s.stale.length : Int) < s.stale.length) = false := decide_eq_false (by omega)
          obtain ⟨A3, c3, hA3⟩ := (rowAt_own HR1.out).form
          obtain ⟨A4, c4, hA4⟩ := (rowAt_own HROW.out).form
          have h1c : (stC s sv' tv').all (·.oneCell') = true := by rw [hA3, hA4]; exact stC_one s A3 A4 _ _ _ _
          have hap : ∀ y, tv'.ownBlock = some y → sv'.ownBlock ≠ some y := fun y e1 e2 => by have := (HB2.out.2 y e2).2; have := (HROW.out.lt y e1).1; omega
          have HAP := Lib.hid hap
          have hi43 : (Tryz.prog.info? 48).map (·.size) = some (stC s sv' tv').size := by rw [stC_size]; kernel_rfl
          have hth : wr.there (w.heap.size + 1) 0 (stC s sv' tv').size := HZ.out.there (by rw [stC_size]; exact Nat.le_refl 24)
          have HRES : Hid (Blk (wr.setCells (w.heap.size + 1) 0 (stC s sv' tv').toList) (w.heap.size + 1) 48 (stC s sv' tv')) := Lib.hid (HZ.out.putAll _ rfl)
          have hO := HO.out
          have hb4 := HB2.out.1
          have hs5 : ∀ i, i ≠ w.heap.size + 1 → (wr.setCells (w.heap.size + 1) 0 (stC s sv' tv').toList).heap[i]? = wr.heap[i]? := fun i hi => sets_far _ _ _ _ trivial hi
          have HS5 := Lib.hid hs5
          have HB5 : Hid (Below w.heap.size w (wr.setCells (w.heap.size + 1) 0 (stC s sv' tv').toList)) := Lib.hid (below_sets _ _ HBW.out (by omega))
          clear hA3 hA4 hap hs5 hlt
          generalize hcs : stC s sv' tv' = cs at *
          have HCS := Lib.hid hcs
          clear hcs
          go_wp2_with (first
            | ((with_reducible refine wpList_load_want ?qw 48 (.tmp 4) ?q2 (w.heap.size + 3) ?q3 48 cs _ hO Tryz.underlying48 rfl hi43 ?_); (case q2 => rfl); (case q3 => rfl); (case qw => rfl))
            | ((with_reducible refine wpList_store_mid ?a1 48 (.tmp 2) (.tmp 87) ?a2 (w.heap.size + 1) 0 cs ?a3 ?a4 hth hi43 h1c ?_); (case a1 => rfl); (case a2 => rfl); (case a3 => rfl); (case a4 => rfl)))
          refine bodyPost_ret (v := .agg cs) (results_cell_row rfl _ _ (w.heap.size + 1) 48 cs (0, 0) _ rfl HRES.out Tryz.underlying48 rfl hi43) rfl ⟨sv', tv', by rw [HCS.out], ⟨?_, ?_, HAP.out⟩, HB5.out⟩
          · exact ownsRow_low (ownsRow_same HR1.out (fun y e => HS5.out y (by have := HB2.out.2 y e; omega))) (by omega)
          · have := ownsRow_low (ownsRow_same HROW.out (fun y e => HS5.out y (by have := HROW.out.lt y e; omega))) (show w.heap.size ≤ B2 by omega)
            rwa [List.take_length] at this
end Go.Proofs.YtidmbibpoldgcaaGreatDoor

namespace Go.Proofs.YtidmbibpoldgcaaGreatDoor
set_option linter.unusedVariables false
set_option linter.unusedSimpArgs false
open Go.RowKit

theorem build_rst (s : StA) (W : World) : (Instr.build 38 #[(0, .agg #[.int .i64 s.n, .int .i64 s.p.ag, .int .i64 s.p.aa, .int .i64 s.p.bg, .int .i64 s.p.ba, .bool s.p.two, .int .i64 s.p.size, .int .i64 s.p.level, .int .i64 s.p.birth, .int .u64 s.p.s0, .int .u64 s.p.s1, .int .u64 s.p.s2, .int .u64 s.p.s3]), (2, .agg #[.int .i64 s.z.x0, .int .i64 s.z.x1, .int .i64 s.z.x2, .int .i64 s.z.x3, .int .i64 s.z.x4, .int .i64 s.z.x5, .int .i64 s.z.x6, .int .i64 s.z.x7, .int .i64 s.z.x8])]).run Tryz.prog W = .ok (.agg (stC s nilV nilV)) W := by kernel_rfl

end Go.Proofs.YtidmbibpoldgcaaGreatDoor
