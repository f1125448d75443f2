/-
  Layer 17: states, what they have in memory; == on their parts.
  Arguments of the laws of layer 17: states.
  Arguments of the laws of layer 17: states, with the bounds of their pointers.
  Contracts of package node: Level, Data.Text; the document's examples.
-/
import Derived.Test.YtidmbibpoldgcaaGreatDoorJ02
import Derived.Test.YtidmbibpoldgcaaGreatDoorJ03
import Derived.Test.YtidmbibpoldgcaaGreatDoorJ04
import Derived.Maps.AppendAt
import Derived.Test.YtidmbibpoldgcaaGreatDoorJ01
import Derived.Test.YtidmbibpoldgcaaGreatDoorRows
namespace Go.Proofs.YtidmbibpoldgcaaGreatDoor
set_option linter.unusedVariables false
set_option linter.unusedSimpArgs false
open Go.RowKit

structure ScanA where
  x0 : Int
  x1 : Int
  x2 : Int
  x3 : Int
  x4 : Int
  x5 : Int
  x6 : Int
  x7 : Int
  x8 : Int
deriving DecidableEq
structure SnapA where
  id : Int
  txg : Int
  n : Int
  p : PtrD
deriving DecidableEq
structure StA where
  n : Int
  p : PtrD
  z : ScanA
  snaps : List SnapA
  stale : List (Int × Int)
deriving DecidableEq
def snapL (x : SnapA) : List Value := [.int .i64 x.id, .int .i64 x.txg, .int .i64 x.n, .int .i64 x.p.ag, .int .i64 x.p.aa, .int .i64 x.p.bg, .int .i64 x.p.ba, .bool x.p.two, .int .i64 x.p.size, .int .i64 x.p.level, .int .i64 x.p.birth, .int .u64 x.p.s0, .int .u64 x.p.s1, .int .u64 x.p.s2, .int .u64 x.p.s3]
def snapC (l : List SnapA) : List Value := l.flatMap snapL
def staL (x : Int × Int) : List Value := [.int .i64 x.1, .int .i64 x.2]
def staC (l : List (Int × Int)) : List Value := l.flatMap staL

theorem flat_len {α : Type} (f : α → List Value) (sz : Nat) (hf : ∀ x, (f x).length = sz) : ∀ l : List α, (l.flatMap f).length = l.length * sz
  | [] => by simp
  | x :: l => by
    rw [List.flatMap_cons, List.length_append, flat_len f sz hf l, hf, List.length_cons, Nat.add_mul, Nat.one_mul, Nat.add_comm]
theorem flat_at {α : Type} (f : α → List Value) (sz : Nat) (hf : ∀ x, (f x).length = sz) : ∀ (l : List α) (i : Nat) (x : α), l[i]? = some x → ∀ j, j < sz → (l.flatMap f)[i * sz + j]? = (f x)[j]?
  | [], i, x, h, _, _ => by simp at h
  | y :: l, 0, x, h, j, hj => by
    simp at h
    subst h
    rw [List.flatMap_cons, Nat.zero_mul, Nat.zero_add, List.getElem?_append_left (by rw [hf]; exact hj)]
  | y :: l, i + 1, x, h, j, hj => by
    have h2 := flat_at f sz hf l i x (by simpa using h) j hj
    rw [List.flatMap_cons, List.getElem?_append_right (by rw [hf, Nat.add_mul, Nat.one_mul]; omega), hf, ← h2]
    congr 1
    rw [Nat.add_mul, Nat.one_mul]; omega
theorem snapC_len (l : List SnapA) : (snapC l).length = l.length * 15 := flat_len snapL 15 (fun _ => rfl) l
theorem staC_len (l : List (Int × Int)) : (staC l).length = l.length * 2 := flat_len staL 2 (fun _ => rfl) l

/-- A slice, and what its cells hold. -/
def RowAt (w : World) (v : Value) (n : Nat) (cs : List Value) : Prop :=
  ∃ A c, v = .slice A n c ∧ (0 < n → ∃ b o, A = some ⟨b, o, none⟩ ∧ b < w.heap.size ∧ ∀ j u, cs[j]? = some u → w.cell? ⟨b, o + j, none⟩ = some u)
section
variable {w w' : World} {v sv tv : Value} {n : Nat} {cs : List Value} {s : StA}
theorem RowAt.below (h : RowAt w v n cs) (hb : Below w.heap.size w w') : RowAt w' v n cs := by
  obtain ⟨A, c, h1, h2⟩ := h
  refine ⟨A, c, h1, fun hp => ?_⟩
  obtain ⟨b, o, e1, e2, e3⟩ := h2 hp
  exact ⟨b, o, e1, Nat.lt_of_lt_of_le e2 hb.size, fun j u hu => (World.cell?_of_block (hb.block b e2)).trans (e3 j u hu)⟩
theorem RowAt.below' {B : Nat} (h : RowAt w v n cs) (hb : Below B w w') (hB : B = w.heap.size) : RowAt w' v n cs := by
  subst hB; exact h.below hb
theorem RowAt.form (h : RowAt w v n cs) : ∃ A c, v = .slice A n c := by
  obtain ⟨A, c, h1, _⟩ := h
  exact ⟨A, c, h1⟩
theorem RowAt.cells {A : Option Addr} {c : Nat} (h : RowAt w (.slice A n c) n cs) (hp : 0 < n) : ∃ b o, A = some ⟨b, o, none⟩ ∧ b < w.heap.size ∧ ∀ j u, cs[j]? = some u → w.cell? ⟨b, o + j, none⟩ = some u := by
  obtain ⟨A', c', h1, h2⟩ := h
  cases h1
  exact h2 hp
theorem rowAt_own {base sz : Nat} {t : TypeId} (h : w.ownsRow base t sz v n cs) : RowAt w v n cs := by
  rcases h.2 with ⟨rfl, h0⟩ | ⟨g, cap, cur, rfl, h1, h2, h3⟩
  · subst h0
    exact ⟨none, 0, rfl, fun h => absurd h (by omega)⟩
  · refine ⟨some ⟨g, 0, none⟩, cap, rfl, fun _ => ⟨g, 0, rfl, lt_of_block h2, fun j u hu => ?_⟩⟩
    have := h.cells rfl j u hu
    rwa [Addr.add_mid] at this

/-- What a state's slices hold. -/
structure StIn (w : World) (s : StA) (sv tv : Value) : Prop where
  snaps : RowAt w sv s.snaps.length (snapC s.snaps)
  stale : RowAt w tv s.stale.length (staC s.stale)
theorem StIn.below (h : StIn w s sv tv) (hb : Below w.heap.size w w') : StIn w' s sv tv := ⟨h.1.below hb, h.2.below hb⟩
end

theorem Tryz.infoMSnap : (Tryz.prog.info? 75).map (fun i => (i.zero, i.size, i.bytes)) = some (some (.agg #[.int .i64 0, .int .i64 0, .int .i64 0, .int .i64 0, .int .i64 0, .int .i64 0, .int .i64 0, .bool false, .int .i64 0, .int .i64 0, .int .i64 0, .int .u64 0, .int .u64 0, .int .u64 0, .int .u64 0]), 15, 120) := by kernel_rfl
theorem Tryz.infoRSnap : (Tryz.prog.info? 74).map (fun i => (i.zero, i.size, i.bytes)) = some (some (.agg #[.int .i64 0, .int .i64 0, .int .i64 0, .int .i64 0, .int .i64 0, .int .i64 0, .int .i64 0, .bool false, .int .i64 0, .int .i64 0, .int .i64 0, .int .u64 0, .int .u64 0, .int .u64 0, .int .u64 0]), 15, 120) := by kernel_rfl
theorem Tryz.infoRange : (Tryz.prog.info? 61).map (fun i => (i.zero, i.size, i.bytes)) = some (some (.agg #[.int .i64 0, .int .i64 0]), 2, 16) := by kernel_rfl
theorem Tryz.infoPair : (Tryz.prog.info? 76).map (fun i => (i.zero, i.size, i.bytes)) = some (some (.agg #[.int .i64 0, .int .i64 0]), 2, 16) := by kernel_rfl

theorem Tryz.mstoodNode : Tryz.prog.stoodInHeld 33 = false := by kernel_rfl
theorem Tryz.stoodMSnap : Tryz.prog.stoodInHeld 75 = false := by kernel_rfl
theorem Tryz.stoodRSnap : Tryz.prog.stoodInHeld 74 = false := by kernel_rfl
theorem Tryz.stoodRange : Tryz.prog.stoodInHeld 61 = false := by kernel_rfl
theorem Tryz.stoodScan : Tryz.prog.stoodInHeld 45 = false := by kernel_rfl
theorem meqIn_ptr (p q : PtrD) (d : Nat) (w : World) : (Op.equalIn (d + 3) 31 (.agg #[.int .i64 p.ag, .int .i64 p.aa, .int .i64 p.bg, .int .i64 p.ba, .bool p.two, .int .i64 p.size, .int .i64 p.level, .int .i64 p.birth, .int .u64 p.s0, .int .u64 p.s1, .int .u64 p.s2, .int .u64 p.s3]) (.agg #[.int .i64 q.ag, .int .i64 q.aa, .int .i64 q.bg, .int .i64 q.ba, .bool q.two, .int .i64 q.size, .int .i64 q.level, .int .i64 q.birth, .int .u64 q.s0, .int .u64 q.s1, .int .u64 q.s2, .int .u64 q.s3])).run Tryz.prog w = .ok (ptrEq p q) w := by
  obtain ⟨a1, a2, a3, a4, a5, a6, a7, a8, a9, aa, ab, ac⟩ := p
  obtain ⟨b1, b2, b3, b4, b5, b6, b7, b8, b9, ba, bb, bc⟩ := q
  rw [run_equalIn_struct w (d + 2) _ _ _ (by kernel_rfl) Tryz.stoodPtr]
  simp [go_sem, Tryz.underlying31, eqIn_place, eqIn_sum, ptrEq]
  repeat' split
  all_goals (congr 1; try simp_all)
  all_goals grind
theorem eqIn_node (n m : Int) (p q : PtrD) (d : Nat) (w : World) : (Op.equalIn (d + 4) 33 (.agg #[.int .i64 n, .int .i64 p.ag, .int .i64 p.aa, .int .i64 p.bg, .int .i64 p.ba, .bool p.two, .int .i64 p.size, .int .i64 p.level, .int .i64 p.birth, .int .u64 p.s0, .int .u64 p.s1, .int .u64 p.s2, .int .u64 p.s3]) (.agg #[.int .i64 m, .int .i64 q.ag, .int .i64 q.aa, .int .i64 q.bg, .int .i64 q.ba, .bool q.two, .int .i64 q.size, .int .i64 q.level, .int .i64 q.birth, .int .u64 q.s0, .int .u64 q.s1, .int .u64 q.s2, .int .u64 q.s3])).run Tryz.prog w = .ok (n == m && ptrEq p q) w := by
  rw [run_equalIn_struct w (d + 3) _ _ _ (by kernel_rfl) Tryz.mstoodNode]
  simp [go_sem, Tryz.underlying33, meqIn_ptr]
  by_cases h1 : n = m <;> cases ptrEq p q <;> simp [h1]
theorem meql_node (n m : Int) (p q : PtrD) (w : World) : (binOp .eql 33 (.agg #[.int .i64 n, .int .i64 p.ag, .int .i64 p.aa, .int .i64 p.bg, .int .i64 p.ba, .bool p.two, .int .i64 p.size, .int .i64 p.level, .int .i64 p.birth, .int .u64 p.s0, .int .u64 p.s1, .int .u64 p.s2, .int .u64 p.s3]) (.agg #[.int .i64 m, .int .i64 q.ag, .int .i64 q.aa, .int .i64 q.bg, .int .i64 q.ba, .bool q.two, .int .i64 q.size, .int .i64 q.level, .int .i64 q.birth, .int .u64 q.s0, .int .u64 q.s1, .int .u64 q.s2, .int .u64 q.s3])).run Tryz.prog w = .ok (.bool (n == m && ptrEq p q)) w := by
  rw [run_eql_struct, eqIn_node n m p q 9996]; rfl
theorem neq_node (n m : Int) (p q : PtrD) (w : World) : (binOp .neq 33 (.agg #[.int .i64 n, .int .i64 p.ag, .int .i64 p.aa, .int .i64 p.bg, .int .i64 p.ba, .bool p.two, .int .i64 p.size, .int .i64 p.level, .int .i64 p.birth, .int .u64 p.s0, .int .u64 p.s1, .int .u64 p.s2, .int .u64 p.s3]) (.agg #[.int .i64 m, .int .i64 q.ag, .int .i64 q.aa, .int .i64 q.bg, .int .i64 q.ba, .bool q.two, .int .i64 q.size, .int .i64 q.level, .int .i64 q.birth, .int .u64 q.s0, .int .u64 q.s1, .int .u64 q.s2, .int .u64 q.s3])).run Tryz.prog w = .ok (.bool (!(n == m && ptrEq p q))) w := by
  rw [run_neq_struct, eqIn_node n m p q 9996]; rfl
theorem eql_msnap (x y : SnapA) (w : World) : (binOp .eql 75 (.agg #[.int .i64 x.id, .int .i64 x.txg, .int .i64 x.n, .int .i64 x.p.ag, .int .i64 x.p.aa, .int .i64 x.p.bg, .int .i64 x.p.ba, .bool x.p.two, .int .i64 x.p.size, .int .i64 x.p.level, .int .i64 x.p.birth, .int .u64 x.p.s0, .int .u64 x.p.s1, .int .u64 x.p.s2, .int .u64 x.p.s3]) (.agg #[.int .i64 y.id, .int .i64 y.txg, .int .i64 y.n, .int .i64 y.p.ag, .int .i64 y.p.aa, .int .i64 y.p.bg, .int .i64 y.p.ba, .bool y.p.two, .int .i64 y.p.size, .int .i64 y.p.level, .int .i64 y.p.birth, .int .u64 y.p.s0, .int .u64 y.p.s1, .int .u64 y.p.s2, .int .u64 y.p.s3])).run Tryz.prog w = .ok (.bool (decide (x = y))) w := by
  obtain ⟨a1, a2, a3, p⟩ := x
  obtain ⟨b1, b2, b3, q⟩ := y
  rw [run_eql_struct, run_equalIn_struct w 9999 _ _ _ (by kernel_rfl) Tryz.stoodMSnap]
  simp [go_sem, Tryz.underlying75, eqIn_node, ptrEq]
  by_cases h1 : a1 = b1 <;> by_cases h2 : a2 = b2 <;> by_cases h3 : a3 = b3 <;> by_cases h4 : p = q <;> simp [h1, h2, h3, h4]
theorem neq_rsnap (x y : SnapA) (w : World) : (binOp .neq 74 (.agg #[.int .i64 x.id, .int .i64 x.txg, .int .i64 x.n, .int .i64 x.p.ag, .int .i64 x.p.aa, .int .i64 x.p.bg, .int .i64 x.p.ba, .bool x.p.two, .int .i64 x.p.size, .int .i64 x.p.level, .int .i64 x.p.birth, .int .u64 x.p.s0, .int .u64 x.p.s1, .int .u64 x.p.s2, .int .u64 x.p.s3]) (.agg #[.int .i64 y.id, .int .i64 y.txg, .int .i64 y.n, .int .i64 y.p.ag, .int .i64 y.p.aa, .int .i64 y.p.bg, .int .i64 y.p.ba, .bool y.p.two, .int .i64 y.p.size, .int .i64 y.p.level, .int .i64 y.p.birth, .int .u64 y.p.s0, .int .u64 y.p.s1, .int .u64 y.p.s2, .int .u64 y.p.s3])).run Tryz.prog w = .ok (.bool (!decide (x = y))) w := by
  obtain ⟨a1, a2, a3, p⟩ := x
  obtain ⟨b1, b2, b3, q⟩ := y
  rw [run_neq_struct, run_equalIn_struct w 9999 _ _ _ (by kernel_rfl) Tryz.stoodRSnap]
  simp [go_sem, Tryz.underlying74, eqIn_node, ptrEq]
  by_cases h1 : a1 = b1 <;> by_cases h2 : a2 = b2 <;> by_cases h3 : a3 = b3 <;> by_cases h4 : p = q <;> simp [h1, h2, h3, h4]
theorem neq_mrange (x y : Int × Int) (w : World) : (binOp .neq 61 (.agg #[.int .i64 x.1, .int .i64 x.2]) (.agg #[.int .i64 y.1, .int .i64 y.2])).run Tryz.prog w = .ok (.bool (!decide (x = y))) w := by
  obtain ⟨a1, a2⟩ := x
  obtain ⟨b1, b2⟩ := y
  rw [run_neq_struct, run_equalIn_struct w 9999 _ _ _ (by kernel_rfl) Tryz.stoodRange]
  simp [go_sem, Tryz.underlying61]
  by_cases h1 : a1 = b1 <;> by_cases h2 : a2 = b2 <;> simp [h1, h2]
theorem neq_msnap (x y : SnapA) (w : World) : (binOp .neq 75 (.agg #[.int .i64 x.id, .int .i64 x.txg, .int .i64 x.n, .int .i64 x.p.ag, .int .i64 x.p.aa, .int .i64 x.p.bg, .int .i64 x.p.ba, .bool x.p.two, .int .i64 x.p.size, .int .i64 x.p.level, .int .i64 x.p.birth, .int .u64 x.p.s0, .int .u64 x.p.s1, .int .u64 x.p.s2, .int .u64 x.p.s3]) (.agg #[.int .i64 y.id, .int .i64 y.txg, .int .i64 y.n, .int .i64 y.p.ag, .int .i64 y.p.aa, .int .i64 y.p.bg, .int .i64 y.p.ba, .bool y.p.two, .int .i64 y.p.size, .int .i64 y.p.level, .int .i64 y.p.birth, .int .u64 y.p.s0, .int .u64 y.p.s1, .int .u64 y.p.s2, .int .u64 y.p.s3])).run Tryz.prog w = .ok (.bool (!decide (x = y))) w := by
  obtain ⟨a1, a2, a3, p⟩ := x
  obtain ⟨b1, b2, b3, q⟩ := y
  rw [run_neq_struct, run_equalIn_struct w 9999 _ _ _ (by kernel_rfl) Tryz.stoodMSnap]
  simp [go_sem, Tryz.underlying75, eqIn_node, ptrEq]
  by_cases h1 : a1 = b1 <;> by_cases h2 : a2 = b2 <;> by_cases h3 : a3 = b3 <;> by_cases h4 : p = q <;> simp [h1, h2, h3, h4]
theorem eqIn_pair (x y : Int × Int) (d : Nat) (w : World) : (Op.equalIn (d + 2) 76 (.agg #[.int .i64 x.1, .int .i64 x.2]) (.agg #[.int .i64 y.1, .int .i64 y.2])).run Tryz.prog w = .ok (decide (x = y)) w := by
  obtain ⟨a1, a2⟩ := x
  obtain ⟨b1, b2⟩ := y
  rw [Op.equalIn]
  simp only [Sem.run_bind, run_underlying Tryz.underlying76, Result.andThen_ok]
  simp [go_sem, Tryz.sizeOf3, Std.Legacy.Range.forIn_eq_forIn_range', Std.Legacy.Range.size, List.range']
  by_cases h1 : a1 = b1 <;> by_cases h2 : a2 = b2 <;> simp [h1, h2]
theorem neq_pair (x y : Int × Int) (w : World) : (binOp .neq 76 (.agg #[.int .i64 x.1, .int .i64 x.2]) (.agg #[.int .i64 y.1, .int .i64 y.2])).run Tryz.prog w = .ok (.bool (!decide (x = y))) w := by
  have h := eqIn_pair x y 9998 w
  simp only [binOp, Op.equal, Op.maxDepth, Sem.run_bind, h, Result.andThen_ok]
  rfl
theorem eqIn_scans (x y : ScanA) (d : Nat) (w : World) : (Op.equalIn (d + 2) 35 (.agg #[.int .i64 x.x0, .int .i64 x.x1, .int .i64 x.x2, .int .i64 x.x3, .int .i64 x.x4, .int .i64 x.x5, .int .i64 x.x6, .int .i64 x.x7, .int .i64 x.x8]) (.agg #[.int .i64 y.x0, .int .i64 y.x1, .int .i64 y.x2, .int .i64 y.x3, .int .i64 y.x4, .int .i64 y.x5, .int .i64 y.x6, .int .i64 y.x7, .int .i64 y.x8])).run Tryz.prog w = .ok (decide (x = y)) w := by
  obtain ⟨a0, a1, a2, a3, a4, a5, a6, a7, a8⟩ := x
  obtain ⟨b0, b1, b2, b3, b4, b5, b6, b7, b8⟩ := y
  rw [Op.equalIn]
  simp only [Sem.run_bind, run_underlying Tryz.underlying35, Result.andThen_ok]
  simp [go_sem, Tryz.sizeOf3, Std.Legacy.Range.forIn_eq_forIn_range', Std.Legacy.Range.size, List.range']
  repeat' split
  all_goals (congr 1; try simp_all)
theorem neq_scans (x y : ScanA) (w : World) : (binOp .neq 35 (.agg #[.int .i64 x.x0, .int .i64 x.x1, .int .i64 x.x2, .int .i64 x.x3, .int .i64 x.x4, .int .i64 x.x5, .int .i64 x.x6, .int .i64 x.x7, .int .i64 x.x8]) (.agg #[.int .i64 y.x0, .int .i64 y.x1, .int .i64 y.x2, .int .i64 y.x3, .int .i64 y.x4, .int .i64 y.x5, .int .i64 y.x6, .int .i64 y.x7, .int .i64 y.x8])).run Tryz.prog w = .ok (.bool (!decide (x = y))) w := by
  have h := eqIn_scans x y 9998 w
  simp only [binOp, Op.equal, Op.maxDepth, Sem.run_bind, h, Result.andThen_ok]
  rfl
theorem eql_scan (x y : ScanA) (w : World) : (binOp .eql 45 (.agg #[.int .i64 x.x0, .int .i64 x.x1, .int .i64 x.x2, .int .i64 x.x3, .int .i64 x.x4, .int .i64 x.x5, .int .i64 x.x6, .int .i64 x.x7, .int .i64 x.x8]) (.agg #[.int .i64 y.x0, .int .i64 y.x1, .int .i64 y.x2, .int .i64 y.x3, .int .i64 y.x4, .int .i64 y.x5, .int .i64 y.x6, .int .i64 y.x7, .int .i64 y.x8])).run Tryz.prog w = .ok (.bool (decide (x = y))) w := by
  obtain ⟨a0, a1, a2, a3, a4, a5, a6, a7, a8⟩ := x
  obtain ⟨b0, b1, b2, b3, b4, b5, b6, b7, b8⟩ := y
  rw [run_eql_struct, run_equalIn_struct w 9999 _ _ _ (by kernel_rfl) Tryz.stoodScan]
  simp [go_sem, Tryz.underlying45]
  repeat' split
  all_goals (congr 2; try simp_all)
end Go.Proofs.YtidmbibpoldgcaaGreatDoor

namespace Go.Proofs.YtidmbibpoldgcaaGreatDoor
set_option linter.unusedVariables false
set_option linter.unusedSimpArgs false
open Go.ChangeShapes Go.WideShapes Go.ChangeAt Go.RowKit Go.Deep Go.Joins
section
variable {H : Type} {enc : TypeId × Value → H} {w : World} {base : Nat} {spare : Nat → Bool} {held : Bool}

/-- A slice opened, element by element. -/
theorem open_rows {t e : TypeId} {fuel : Nat} {cs : List Value} {x : DataW H × List MemPlace} {α : Type} (ht : Tryz.prog.underlying t = some (.slice e)) (f : α → List Value) (sz : Nat) (hsz0 : 0 < sz) (hf : ∀ y, (f y).length = sz) (dflt : α)
    (hsz : Tryz.prog.cellsOf e = sz) (hel : ∀ n ds z, DataW.trod enc Tryz.prog w base spare held n e ds = some z → ds.length = sz → ∃ y : α, ds = f y) (h : DataW.trod enc Tryz.prog w base spare held fuel t cs = some x) :
    ∃ (v : Value) (l : List α), cs = [v] ∧ RowAt w v l.length (l.flatMap f) := by
  rcases open_slice ht h with ⟨rfl, _⟩ | ⟨a, len, cap, m, n, D, Pl, rfl, hb, hl, hm, hmm, hx, hi⟩
  · exact ⟨_, [], rfl, none, 0, rfl, fun h => absurd h (Nat.lt_irrefl _)⟩
  · have hlm : len ≤ m := by rw [hmm]; split <;> omega
    rw [hsz] at hi
    have key : ∀ i, i < len → ∃ y : α, ∀ j, j < sz → w.cell? (a.add (i * sz + j)) = (f y)[j]? := by
      intro i hil
      obtain ⟨ds, hc, htr⟩ := hi i (by omega)
      obtain ⟨_, hcl, hat⟩ := World.cells?_some hc
      obtain ⟨y, rfl⟩ := hel _ _ _ htr hcl
      exact ⟨y, fun j hj => by rw [← hat j hj, Addr.add_add]⟩
    have hch : ∃ g : Nat → α, ∀ i, i < len → ∀ j, j < sz → w.cell? (a.add (i * sz + j)) = (f (g i))[j]? := by
      refine ⟨fun i => if h : i < len then Classical.choose (key i h) else dflt, fun i hi => ?_⟩
      simp only [hi, dif_pos]
      exact Classical.choose_spec (key i hi)
    obtain ⟨g, hg⟩ := hch
    have hlen : ((List.range len).map g).length = len := by simp
    refine ⟨_, (List.range len).map g, rfl, some a, cap, by rw [hlen], fun hp => ?_⟩
    rw [hlen] at hp
    have h00 := hg 0 hp 0 hsz0
    rw [Nat.zero_mul, Nat.add_zero] at h00
    have hsome : ∃ v, (f (g 0))[0]? = some v := ⟨_, List.getElem?_eq_getElem (by rw [hf]; exact hsz0)⟩
    obtain ⟨v, hv⟩ := hsome
    rw [hv] at h00
    obtain ⟨b, off, rfl, hbl⟩ := slice_spot h00
    refine ⟨b, off, rfl, hbl, fun j u hu => ?_⟩
    have hjl := (List.getElem?_eq_some_iff.1 hu).1
    rw [flat_len f sz hf, hlen] at hjl
    have hdm : j = j / sz * sz + j % sz := by rw [Nat.mul_comm]; exact (Nat.div_add_mod j sz).symm
    have hi2 : j / sz < len := Nat.div_lt_of_lt_mul (by rw [Nat.mul_comm]; exact hjl)
    have hm2 : j % sz < sz := Nat.mod_lt _ hsz0
    have hel2 : ((List.range len).map g)[j / sz]? = some (g (j / sz)) := by simp [hi2]
    have h1 := flat_at f sz hf _ _ _ hel2 _ hm2
    rw [← hdm, hu] at h1
    have h2 := hg _ hi2 _ hm2
    rw [← hdm, ← h1, Addr.add_mid] at h2
    exact h2
set_option maxRecDepth 100000 in
theorem open_snapel (n : Nat) (ds : List Value) (z : DataW H × List MemPlace) (h : DataW.trod enc Tryz.prog w base spare held n 74 ds = some z) (hl : ds.length = 15) : ∃ y : SnapA, ds = snapL y := by
  have ki : Tryz.prog.cellsOf 3 = 1 := by kernel_rfl
  have kn : Tryz.prog.cellsOf 33 = 13 := by kernel_rfl
  have kp : Tryz.prog.cellsOf 31 = 12 := by kernel_rfl
  obtain ⟨xs, m, _, _, _, hlen, hg⟩ := DataW.trod_struct Tryz.underlying74 h
  match xs, hlen with
  | [y0, y1, y2], _ =>
    have t0 : DataW.trod enc Tryz.prog w base spare held m 3 ((ds.drop 0).take (Tryz.prog.cellsOf 3)) = [y0, y1, y2][0]? := hg 0 _ rfl
    have t1 : DataW.trod enc Tryz.prog w base spare held m 3 ((ds.drop 1).take (Tryz.prog.cellsOf 3)) = [y0, y1, y2][1]? := hg 1 _ rfl
    have t2 : DataW.trod enc Tryz.prog w base spare held m 33 ((ds.drop 2).take (Tryz.prog.cellsOf 33)) = [y0, y1, y2][2]? := hg 2 _ rfl
    rw [ki] at t0 t1
    rw [kn] at t2
    obtain ⟨id, e0, _, _⟩ := DataW.trod_int Tryz.underlying3 t0
    obtain ⟨txg, e1, _, _⟩ := DataW.trod_int Tryz.underlying3 t1
    obtain ⟨ys, m2, _, _, _, hlen2, hg2⟩ := DataW.trod_struct Tryz.underlying33 t2
    match ys, hlen2 with
    | [z0, z1], _ =>
      have u0 : DataW.trod enc Tryz.prog w base spare held m2 3 ((((ds.drop 2).take 13).drop 0).take (Tryz.prog.cellsOf 3)) = [z0, z1][0]? := hg2 0 _ rfl
      have u1 : DataW.trod enc Tryz.prog w base spare held m2 31 ((((ds.drop 2).take 13).drop 1).take (Tryz.prog.cellsOf 31)) = [z0, z1][1]? := hg2 1 _ rfl
      rw [ki] at u0
      rw [kp] at u1
      obtain ⟨nn, e2, _, _⟩ := DataW.trod_int Tryz.underlying3 u0
      obtain ⟨p, e3, _⟩ := open_ptrs u1 (by simp only [List.length_take, List.length_drop]; omega)
      match ds, hl with
      | [d0, d1, d2, d3, d4, d5, d6, d7, d8, d9, d10, d11, d12, d13, d14], _ =>
        simp at e0 e1 e2 e3
        subst e0 e1 e2
        refine ⟨⟨id, txg, nn, p⟩, ?_⟩
        simp only [PtrD.cells] at e3
        simp only [snapL, List.cons.injEq, and_true, true_and]
        simpa using e3
set_option maxRecDepth 100000 in
theorem open_pairel (n : Nat) (ds : List Value) (z : DataW H × List MemPlace) (h : DataW.trod enc Tryz.prog w base spare held n 76 ds = some z) (hl : ds.length = 2) : ∃ y : Int × Int, ds = staL y := by
  have ki : Tryz.prog.cellsOf 3 = 1 := by kernel_rfl
  obtain ⟨xs, m, _, _, _, hlen, hg⟩ := DataW.trod_array Tryz.underlying76 h
  match ds, hl, xs, hlen with
  | [d0, d1], _, [y0, y1], _ =>
    have t0 : DataW.trod enc Tryz.prog w base spare held m 3 (([d0, d1].drop (0 * Tryz.prog.cellsOf 3)).take (Tryz.prog.cellsOf 3)) = [y0, y1][0]? := hg 0 (by omega)
    have t1 : DataW.trod enc Tryz.prog w base spare held m 3 (([d0, d1].drop (1 * Tryz.prog.cellsOf 3)).take (Tryz.prog.cellsOf 3)) = [y0, y1][1]? := hg 1 (by omega)
    rw [ki] at t0 t1
    obtain ⟨a, e0, _, _⟩ := DataW.trod_int Tryz.underlying3 t0
    obtain ⟨b, e1, _, _⟩ := DataW.trod_int Tryz.underlying3 t1
    simp at e0 e1
    subst e0 e1
    exact ⟨(a, b), rfl⟩

set_option maxRecDepth 100000 in
/-- A state, opened. -/
theorem open_rstate {b0 : Nat} {v : Value} {d : DataW H} {p : List MemPlace} (hv : Value.okWide Tryz.prog w .any b0 38 v) (h : DataW.Trod enc Tryz.prog w base spare held 38 v d p) :
    ∃ (s : StA) (sv tv : Value), v = .agg #[.int .i64 s.n, .int .i64 s.p.ag, .int .i64 s.p.aa, .int .i64 s.p.bg, .int .i64 s.p.ba, .bool s.p.two, .int .i64 s.p.size, .int .i64 s.p.level, .int .i64 s.p.birth, .int .u64 s.p.s0, .int .u64 s.p.s1, .int .u64 s.p.s2, .int .u64 s.p.s3, sv, .int .i64 s.z.x0, .int .i64 s.z.x1, .int .i64 s.z.x2, .int .i64 s.z.x3, .int .i64 s.z.x4, .int .i64 s.z.x5, .int .i64 s.z.x6, .int .i64 s.z.x7, .int .i64 s.z.x8, tv] ∧ RowAt w sv s.snaps.length (snapC s.snaps) ∧ RowAt w tv s.stale.length (staC s.stale) ∧ -9223372036854775808 ≤ s.n ∧ s.n ≤ 9223372036854775807 := by
  obtain ⟨cs, rfl, hsz⟩ := okWide_struct Tryz.underlying38 hv
  have hk : Tryz.prog.cellsOf 38 = 24 := by kernel_rfl
  have ki : Tryz.prog.cellsOf 3 = 1 := by kernel_rfl
  have kn : Tryz.prog.cellsOf 33 = 13 := by kernel_rfl
  have kp : Tryz.prog.cellsOf 31 = 12 := by kernel_rfl
  have k1 : Tryz.prog.cellsOf 34 = 1 := by kernel_rfl
  have k2 : Tryz.prog.cellsOf 35 = 9 := by kernel_rfl
  have k3 : Tryz.prog.cellsOf 36 = 1 := by kernel_rfl
  obtain ⟨fuel, hf⟩ := h
  have hl : cs.toList.length = 24 := by rw [Array.length_toList, hsz, hk]
  obtain ⟨cl⟩ := cs
  simp only at hl hf
  obtain ⟨xs, m, _, _, _, hlen, hg⟩ := DataW.trod_struct Tryz.underlying38 hf
  match xs, hlen with
  | [y0, y1, y2, y3], _ =>
    have t0 : DataW.trod enc Tryz.prog w base spare held m 33 ((cl.drop 0).take (Tryz.prog.cellsOf 33)) = [y0, y1, y2, y3][0]? := hg 0 _ rfl
    have t1 : DataW.trod enc Tryz.prog w base spare held m 34 ((cl.drop 13).take (Tryz.prog.cellsOf 34)) = [y0, y1, y2, y3][1]? := hg 1 _ rfl
    have t2 : DataW.trod enc Tryz.prog w base spare held m 35 ((cl.drop 14).take (Tryz.prog.cellsOf 35)) = [y0, y1, y2, y3][2]? := hg 2 _ rfl
    have t3 : DataW.trod enc Tryz.prog w base spare held m 36 ((cl.drop 23).take (Tryz.prog.cellsOf 36)) = [y0, y1, y2, y3][3]? := hg 3 _ rfl
    rw [kn] at t0
    rw [k1] at t1
    rw [k2] at t2
    rw [k3] at t3
    obtain ⟨sv, ss, e1, r1⟩ := open_rows Tryz.underlying34 snapL 15 (by omega) (fun _ => rfl) ⟨0, 0, 0, ⟨0, 0, 0, 0, false, 0, 0, 0, 0, 0, 0, 0⟩⟩ (by kernel_rfl) open_snapel t1
    obtain ⟨tv, ts, e3, r3⟩ := open_rows Tryz.underlying36 staL 2 (by omega) (fun _ => rfl) (0, 0) (by kernel_rfl) open_pairel t3
    obtain ⟨ys, m2, _, _, _, hlen2, hg2⟩ := DataW.trod_struct Tryz.underlying33 t0
    obtain ⟨zs, m3, _, _, _, hlen3, hg3⟩ := DataW.trod_array Tryz.underlying35 t2
    match ys, hlen2, zs, hlen3 with
    | [z0, z1], _, [q0, q1, q2, q3, q4, q5, q6, q7, q8], _ =>
      have u0 : DataW.trod enc Tryz.prog w base spare held m2 3 ((((cl.drop 0).take 13).drop 0).take (Tryz.prog.cellsOf 3)) = [z0, z1][0]? := hg2 0 _ rfl
      have u1 : DataW.trod enc Tryz.prog w base spare held m2 31 ((((cl.drop 0).take 13).drop 1).take (Tryz.prog.cellsOf 31)) = [z0, z1][1]? := hg2 1 _ rfl
      rw [ki] at u0
      rw [kp] at u1
      rw [ki] at hg3
      obtain ⟨nn, f0, _, wn⟩ := DataW.trod_int Tryz.underlying3 u0
      obtain ⟨pp, f1, _⟩ := open_ptrs u1 (by simp only [List.length_take, List.length_drop]; omega)
      obtain ⟨x0, g0, _, _⟩ := DataW.trod_int Tryz.underlying3 ((hg3 0 (by omega)).trans (rfl : _ = some q0))
      obtain ⟨x1, g1, _, _⟩ := DataW.trod_int Tryz.underlying3 ((hg3 1 (by omega)).trans (rfl : _ = some q1))
      obtain ⟨x2, g2, _, _⟩ := DataW.trod_int Tryz.underlying3 ((hg3 2 (by omega)).trans (rfl : _ = some q2))
      obtain ⟨x3, g3, _, _⟩ := DataW.trod_int Tryz.underlying3 ((hg3 3 (by omega)).trans (rfl : _ = some q3))
      obtain ⟨x4, g4, _, _⟩ := DataW.trod_int Tryz.underlying3 ((hg3 4 (by omega)).trans (rfl : _ = some q4))
      obtain ⟨x5, g5, _, _⟩ := DataW.trod_int Tryz.underlying3 ((hg3 5 (by omega)).trans (rfl : _ = some q5))
      obtain ⟨x6, g6, _, _⟩ := DataW.trod_int Tryz.underlying3 ((hg3 6 (by omega)).trans (rfl : _ = some q6))
      obtain ⟨x7, g7, _, _⟩ := DataW.trod_int Tryz.underlying3 ((hg3 7 (by omega)).trans (rfl : _ = some q7))
      obtain ⟨x8, g8, _, _⟩ := DataW.trod_int Tryz.underlying3 ((hg3 8 (by omega)).trans (rfl : _ = some q8))
      have bn := i64_bd wn
      refine ⟨⟨nn, pp, ⟨x0, x1, x2, x3, x4, x5, x6, x7, x8⟩, ss, ts⟩, sv, tv, ?_, r1, r3, bn.1, bn.2⟩
      match cl, hl with
      | [d0, d1, d2, d3, d4, d5, d6, d7, d8, d9, d10, d11, d12, d13, d14, d15, d16, d17, d18, d19, d20, d21, d22, d23], _ =>
        simp at e1 e3 f0 f1 g0 g1 g2 g3 g4 g5 g6 g7 g8
        subst e1 e3 f0 g0 g1 g2 g3 g4 g5 g6 g7 g8
        simp only [PtrD.cells] at f1
        simpa using f1
end
end Go.Proofs.YtidmbibpoldgcaaGreatDoor

namespace Go.Proofs.YtidmbibpoldgcaaGreatDoor
set_option linter.unusedVariables false
set_option linter.unusedSimpArgs false
open Go.ChangeShapes Go.WideShapes Go.ChangeAt Go.RowKit Go.Deep Go.Joins
section
variable {H : Type} {enc : TypeId × Value → H} {w : World} {base : Nat} {spare : Nat → Bool} {held : Bool}

/-- A slice opened, element by element. -/
theorem open_rows2 {t e : TypeId} {fuel : Nat} {cs : List Value} {x : DataW H × List MemPlace} {α : Type} (ht : Tryz.prog.underlying t = some (.slice e)) (f : α → List Value) (sz : Nat) (hsz0 : 0 < sz) (hf : ∀ y, (f y).length = sz) (dflt : α) (Q : α → Prop)
    (hsz : Tryz.prog.cellsOf e = sz) (hel : ∀ n ds z, DataW.trod enc Tryz.prog w base spare held n e ds = some z → ds.length = sz → ∃ y : α, ds = f y ∧ Q y) (h : DataW.trod enc Tryz.prog w base spare held fuel t cs = some x) :
    ∃ (v : Value) (l : List α), cs = [v] ∧ RowAt w v l.length (l.flatMap f) ∧ ∀ y ∈ l, Q y := by
  rcases open_slice ht h with ⟨rfl, _⟩ | ⟨a, len, cap, m, n, D, Pl, rfl, hb, hl, hm, hmm, hx, hi⟩
  · exact ⟨_, [], rfl, ⟨none, 0, rfl, fun h => absurd h (Nat.lt_irrefl _)⟩, fun _ h => by cases h⟩
  · have hlm : len ≤ m := by rw [hmm]; split <;> omega
    rw [hsz] at hi
    have key : ∀ i, i < len → ∃ y : α, Q y ∧ ∀ j, j < sz → w.cell? (a.add (i * sz + j)) = (f y)[j]? := by
      intro i hil
      obtain ⟨ds, hc, htr⟩ := hi i (by omega)
      obtain ⟨_, hcl, hat⟩ := World.cells?_some hc
      obtain ⟨y, rfl, hq⟩ := hel _ _ _ htr hcl
      exact ⟨y, hq, fun j hj => by rw [← hat j hj, Addr.add_add]⟩
    have hch : ∃ g : Nat → α, ∀ i, i < len → Q (g i) ∧ ∀ j, j < sz → w.cell? (a.add (i * sz + j)) = (f (g i))[j]? := by
      refine ⟨fun i => if h : i < len then Classical.choose (key i h) else dflt, fun i hi => ?_⟩
      simp only [hi, dif_pos]
      exact Classical.choose_spec (key i hi)
    obtain ⟨g, hgq⟩ := hch
    have hg := fun i hi => (hgq i hi).2
    have hlen : ((List.range len).map g).length = len := by simp
    refine ⟨_, (List.range len).map g, rfl, ⟨some a, cap, by rw [hlen], fun hp => ?_⟩, fun y hy => by
      obtain ⟨i, hi, rfl⟩ := List.mem_map.1 hy
      exact (hgq i (List.mem_range.1 hi)).1⟩
    rw [hlen] at hp
    have h00 := hg 0 hp 0 hsz0
    rw [Nat.zero_mul, Nat.add_zero] at h00
    have hsome : ∃ v, (f (g 0))[0]? = some v := ⟨_, List.getElem?_eq_getElem (by rw [hf]; exact hsz0)⟩
    obtain ⟨v, hv⟩ := hsome
    rw [hv] at h00
    obtain ⟨b, off, rfl, hbl⟩ := slice_spot h00
    refine ⟨b, off, rfl, hbl, fun j u hu => ?_⟩
    have hjl := (List.getElem?_eq_some_iff.1 hu).1
    rw [flat_len f sz hf, hlen] at hjl
    have hdm : j = j / sz * sz + j % sz := by rw [Nat.mul_comm]; exact (Nat.div_add_mod j sz).symm
    have hi2 : j / sz < len := Nat.div_lt_of_lt_mul (by rw [Nat.mul_comm]; exact hjl)
    have hm2 : j % sz < sz := Nat.mod_lt _ hsz0
    have hel2 : ((List.range len).map g)[j / sz]? = some (g (j / sz)) := by simp [hi2]
    have h1 := flat_at f sz hf _ _ _ hel2 _ hm2
    rw [← hdm, hu] at h1
    have h2 := hg _ hi2 _ hm2
    rw [← hdm, ← h1, Addr.add_mid] at h2
    exact h2
set_option maxRecDepth 100000 in
theorem open_snapel2 (n : Nat) (ds : List Value) (z : DataW H × List MemPlace) (h : DataW.trod enc Tryz.prog w base spare held n 74 ds = some z) (hl : ds.length = 15) : ∃ y : SnapA, ds = snapL y ∧ y.p.Ok := by
  have ki : Tryz.prog.cellsOf 3 = 1 := by kernel_rfl
  have kn : Tryz.prog.cellsOf 33 = 13 := by kernel_rfl
  have kp : Tryz.prog.cellsOf 31 = 12 := by kernel_rfl
  obtain ⟨xs, m, _, _, _, hlen, hg⟩ := DataW.trod_struct Tryz.underlying74 h
  match xs, hlen with
  | [y0, y1, y2], _ =>
    have t0 : DataW.trod enc Tryz.prog w base spare held m 3 ((ds.drop 0).take (Tryz.prog.cellsOf 3)) = [y0, y1, y2][0]? := hg 0 _ rfl
    have t1 : DataW.trod enc Tryz.prog w base spare held m 3 ((ds.drop 1).take (Tryz.prog.cellsOf 3)) = [y0, y1, y2][1]? := hg 1 _ rfl
    have t2 : DataW.trod enc Tryz.prog w base spare held m 33 ((ds.drop 2).take (Tryz.prog.cellsOf 33)) = [y0, y1, y2][2]? := hg 2 _ rfl
    rw [ki] at t0 t1
    rw [kn] at t2
    obtain ⟨id, e0, _, _⟩ := DataW.trod_int Tryz.underlying3 t0
    obtain ⟨txg, e1, _, _⟩ := DataW.trod_int Tryz.underlying3 t1
    obtain ⟨ys, m2, _, _, _, hlen2, hg2⟩ := DataW.trod_struct Tryz.underlying33 t2
    match ys, hlen2 with
    | [z0, z1], _ =>
      have u0 : DataW.trod enc Tryz.prog w base spare held m2 3 ((((ds.drop 2).take 13).drop 0).take (Tryz.prog.cellsOf 3)) = [z0, z1][0]? := hg2 0 _ rfl
      have u1 : DataW.trod enc Tryz.prog w base spare held m2 31 ((((ds.drop 2).take 13).drop 1).take (Tryz.prog.cellsOf 31)) = [z0, z1][1]? := hg2 1 _ rfl
      rw [ki] at u0
      rw [kp] at u1
      obtain ⟨nn, e2, _, _⟩ := DataW.trod_int Tryz.underlying3 u0
      obtain ⟨p, e3, hok⟩ := open_ptrs u1 (by simp only [List.length_take, List.length_drop]; omega)
      match ds, hl with
      | [d0, d1, d2, d3, d4, d5, d6, d7, d8, d9, d10, d11, d12, d13, d14], _ =>
        simp at e0 e1 e2 e3
        subst e0 e1 e2
        refine ⟨⟨id, txg, nn, p⟩, ?_, hok⟩
        simp only [PtrD.cells] at e3
        simp only [snapL, List.cons.injEq, and_true, true_and]
        simpa using e3
set_option maxRecDepth 100000 in
/-- A state, opened. -/
theorem open_rstate2 {b0 : Nat} {v : Value} {d : DataW H} {p : List MemPlace} (hv : Value.okWide Tryz.prog w .any b0 38 v) (h : DataW.Trod enc Tryz.prog w base spare held 38 v d p) :
    ∃ (s : StA) (sv tv : Value), v = .agg #[.int .i64 s.n, .int .i64 s.p.ag, .int .i64 s.p.aa, .int .i64 s.p.bg, .int .i64 s.p.ba, .bool s.p.two, .int .i64 s.p.size, .int .i64 s.p.level, .int .i64 s.p.birth, .int .u64 s.p.s0, .int .u64 s.p.s1, .int .u64 s.p.s2, .int .u64 s.p.s3, sv, .int .i64 s.z.x0, .int .i64 s.z.x1, .int .i64 s.z.x2, .int .i64 s.z.x3, .int .i64 s.z.x4, .int .i64 s.z.x5, .int .i64 s.z.x6, .int .i64 s.z.x7, .int .i64 s.z.x8, tv] ∧ RowAt w sv s.snaps.length (snapC s.snaps) ∧ RowAt w tv s.stale.length (staC s.stale) ∧ s.p.Ok ∧ ∀ x ∈ s.snaps, x.p.Ok := by
  obtain ⟨cs, rfl, hsz⟩ := okWide_struct Tryz.underlying38 hv
  have hk : Tryz.prog.cellsOf 38 = 24 := by kernel_rfl
  have ki : Tryz.prog.cellsOf 3 = 1 := by kernel_rfl
  have kn : Tryz.prog.cellsOf 33 = 13 := by kernel_rfl
  have kp : Tryz.prog.cellsOf 31 = 12 := by kernel_rfl
  have k1 : Tryz.prog.cellsOf 34 = 1 := by kernel_rfl
  have k2 : Tryz.prog.cellsOf 35 = 9 := by kernel_rfl
  have k3 : Tryz.prog.cellsOf 36 = 1 := by kernel_rfl
  obtain ⟨fuel, hf⟩ := h
  have hl : cs.toList.length = 24 := by rw [Array.length_toList, hsz, hk]
  obtain ⟨cl⟩ := cs
  simp only at hl hf
  obtain ⟨xs, m, _, _, _, hlen, hg⟩ := DataW.trod_struct Tryz.underlying38 hf
  match xs, hlen with
  | [y0, y1, y2, y3], _ =>
    have t0 : DataW.trod enc Tryz.prog w base spare held m 33 ((cl.drop 0).take (Tryz.prog.cellsOf 33)) = [y0, y1, y2, y3][0]? := hg 0 _ rfl
    have t1 : DataW.trod enc Tryz.prog w base spare held m 34 ((cl.drop 13).take (Tryz.prog.cellsOf 34)) = [y0, y1, y2, y3][1]? := hg 1 _ rfl
    have t2 : DataW.trod enc Tryz.prog w base spare held m 35 ((cl.drop 14).take (Tryz.prog.cellsOf 35)) = [y0, y1, y2, y3][2]? := hg 2 _ rfl
    have t3 : DataW.trod enc Tryz.prog w base spare held m 36 ((cl.drop 23).take (Tryz.prog.cellsOf 36)) = [y0, y1, y2, y3][3]? := hg 3 _ rfl
    rw [kn] at t0
    rw [k1] at t1
    rw [k2] at t2
    rw [k3] at t3
    obtain ⟨sv, ss, e1, r1, hss⟩ := open_rows2 Tryz.underlying34 snapL 15 (by omega) (fun _ => rfl) ⟨0, 0, 0, ⟨0, 0, 0, 0, false, 0, 0, 0, 0, 0, 0, 0⟩⟩ (fun x => x.p.Ok) (by kernel_rfl) open_snapel2 t1
    obtain ⟨tv, ts, e3, r3⟩ := open_rows Tryz.underlying36 staL 2 (by omega) (fun _ => rfl) (0, 0) (by kernel_rfl) open_pairel t3
    obtain ⟨ys, m2, _, _, _, hlen2, hg2⟩ := DataW.trod_struct Tryz.underlying33 t0
    obtain ⟨zs, m3, _, _, _, hlen3, hg3⟩ := DataW.trod_array Tryz.underlying35 t2
    match ys, hlen2, zs, hlen3 with
    | [z0, z1], _, [q0, q1, q2, q3, q4, q5, q6, q7, q8], _ =>
      have u0 : DataW.trod enc Tryz.prog w base spare held m2 3 ((((cl.drop 0).take 13).drop 0).take (Tryz.prog.cellsOf 3)) = [z0, z1][0]? := hg2 0 _ rfl
      have u1 : DataW.trod enc Tryz.prog w base spare held m2 31 ((((cl.drop 0).take 13).drop 1).take (Tryz.prog.cellsOf 31)) = [z0, z1][1]? := hg2 1 _ rfl
      rw [ki] at u0
      rw [kp] at u1
      rw [ki] at hg3
      obtain ⟨nn, f0, _, _⟩ := DataW.trod_int Tryz.underlying3 u0
      obtain ⟨pp, f1, hpp⟩ := open_ptrs u1 (by simp only [List.length_take, List.length_drop]; omega)
      obtain ⟨x0, g0, _, _⟩ := DataW.trod_int Tryz.underlying3 ((hg3 0 (by omega)).trans (rfl : _ = some q0))
      obtain ⟨x1, g1, _, _⟩ := DataW.trod_int Tryz.underlying3 ((hg3 1 (by omega)).trans (rfl : _ = some q1))
      obtain ⟨x2, g2, _, _⟩ := DataW.trod_int Tryz.underlying3 ((hg3 2 (by omega)).trans (rfl : _ = some q2))
      obtain ⟨x3, g3, _, _⟩ := DataW.trod_int Tryz.underlying3 ((hg3 3 (by omega)).trans (rfl : _ = some q3))
      obtain ⟨x4, g4, _, _⟩ := DataW.trod_int Tryz.underlying3 ((hg3 4 (by omega)).trans (rfl : _ = some q4))
      obtain ⟨x5, g5, _, _⟩ := DataW.trod_int Tryz.underlying3 ((hg3 5 (by omega)).trans (rfl : _ = some q5))
      obtain ⟨x6, g6, _, _⟩ := DataW.trod_int Tryz.underlying3 ((hg3 6 (by omega)).trans (rfl : _ = some q6))
      obtain ⟨x7, g7, _, _⟩ := DataW.trod_int Tryz.underlying3 ((hg3 7 (by omega)).trans (rfl : _ = some q7))
      obtain ⟨x8, g8, _, _⟩ := DataW.trod_int Tryz.underlying3 ((hg3 8 (by omega)).trans (rfl : _ = some q8))
      refine ⟨⟨nn, pp, ⟨x0, x1, x2, x3, x4, x5, x6, x7, x8⟩, ss, ts⟩, sv, tv, ?_, r1, r3, hpp, hss⟩
      match cl, hl with
      | [d0, d1, d2, d3, d4, d5, d6, d7, d8, d9, d10, d11, d12, d13, d14, d15, d16, d17, d18, d19, d20, d21, d22, d23], _ =>
        simp at e1 e3 f0 f1 g0 g1 g2 g3 g4 g5 g6 g7 g8
        subst e1 e3 f0 g0 g1 g2 g3 g4 g5 g6 g7 g8
        simp only [PtrD.cells] at f1
        simpa using f1
end
end Go.Proofs.YtidmbibpoldgcaaGreatDoor

namespace Go.Proofs.YtidmbibpoldgcaaGreatDoor
set_option linter.unusedVariables false
set_option linter.unusedSimpArgs false
open Go.RowKit

def levN (size : Int) : Nat := if size ≤ 256 then 0 else if size ≤ 1024 then 1 else if size ≤ 4096 then 2 else 3
theorem levN_le (size : Int) : levN size ≤ 3 := by unfold levN; (repeat' split) <;> omega
theorem levN_mono {a b : Int} (h : a ≤ b) : levN a ≤ levN b := by unfold levN; (repeat' split) <;> omega

theorem level_any (size : Int) (w : World) : Calls Tryz.prog 39 #[.int .i64 size] w fun e w' => e = .returned (.int .i64 (levN size)) ∧ w = w' := by
  have HV : Hid (levN size = if size ≤ 256 then 0 else if size ≤ 1024 then 1 else if size ≤ 4096 then 2 else 3) := Lib.hid rfl
  go_enter Tryz.func39, Tryz.ntmps39
  go_wp2_with fail
  go_loop [3, 4] (fun l m => ∃ k : Nat, k ≤ 3 ∧ l = .int .i64 k ∧ ((k = 0 ∧ m = .int .i64 256) ∨ (k = 1 ∧ m = .int .i64 1024 ∧ 256 < size) ∨ (k = 2 ∧ m = .int .i64 4096 ∧ 1024 < size) ∨ (k = 3 ∧ m = .int .i64 16384 ∧ 4096 < size))) (fun l _ => 3 - (RowKit.intOf l).toNat)
  case atStart => exact ⟨0, by omega, rfl, .inl ⟨rfl, rfl⟩⟩
  case round =>
    obtain ⟨k, hk, rfl, hc⟩ := hrel
    rcases hc with ⟨rfl, rfl⟩ | ⟨rfl, rfl, hlt⟩ | ⟨rfl, rfl, hlt⟩ | ⟨rfl, rfl, hlt⟩
    · by_cases h : 256 < size
      · go_wp2_with fail
        go_round
        case rel => exact ⟨1, by omega, rfl, .inr (.inl ⟨rfl, rfl, h⟩)⟩
        case measure => simp [RowKit.intOf]
      · go_wp2_with fail
        go_ret
        refine ⟨ret_int ?_, rfl⟩
        rw [HV.out, if_pos (by omega)]; rfl
    · by_cases h : 1024 < size
      · go_wp2_with fail
        go_round
        case rel => exact ⟨2, by omega, rfl, .inr (.inr (.inl ⟨rfl, rfl, h⟩))⟩
        case measure => simp [RowKit.intOf]
      · go_wp2_with fail
        go_ret
        refine ⟨ret_int ?_, rfl⟩
        rw [HV.out, if_neg (by omega), if_pos (by omega)]; rfl
    · by_cases h : 4096 < size
      · go_wp2_with fail
        go_round
        case rel => exact ⟨3, by omega, rfl, .inr (.inr (.inr ⟨rfl, rfl, h⟩))⟩
        case measure => simp [RowKit.intOf]
      · go_wp2_with fail
        go_ret
        refine ⟨ret_int ?_, rfl⟩
        rw [HV.out, if_neg (by omega), if_neg (by omega), if_pos (by omega)]; rfl
    · have hr : Hid (levN size = 3) := by unfold Hid; rw [HV.out, if_neg (by omega), if_neg (by omega), if_neg (by omega)]
      by_cases h : 16384 < size
      · go_wp2_with fail
        go_ret
        exact ⟨ret_int (by rw [hr.out]; rfl), rfl⟩
      · go_wp2_with fail
        go_ret
        exact ⟨ret_int (by rw [hr.out]; rfl), rfl⟩

def textL (s : List UInt8) : List UInt8 := if 256 < s.length then [] else padL s 64
theorem rd_take (l : List UInt8) (m : Nat) : (ByteArray.mk l.toArray).extract 0 m = ⟨(l.take m).toArray⟩ := by
  apply ByteArray.ext
  rw [ByteArray.data_extract]
  simp [List.extract_eq_take_drop]
end Go.Proofs.YtidmbibpoldgcaaGreatDoor
