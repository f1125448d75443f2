/-
  Layer 17: states, what they have in memory; == on their parts.
-/
import Derived.Test.YtidmbibpoldgcaaBlk
import Derived.Test.YtidmbibpoldgcaaOnly
import Derived.Test.YtidmbibpoldgcaaEff
import Derived.Test.YtidmbibpoldgcaaPtrEq
import Derived.Maps.AppendAt
namespace Go.Proofs.Ytidmbibpoldgcaa
set_option linter.unusedVariables false
set_option linter.unusedSimpArgs false
open Go.RowKit

structure ScanA where
  x0 : Int
  x1 : Int
  x2 : Int
  x3 : Int
  x4 : Int
  x5 : Int
  x6 : Int
  x7 : Int
  x8 : Int
deriving DecidableEq
structure SnapA where
  id : Int
  txg : Int
  n : Int
  p : PtrD
deriving DecidableEq
structure StA where
  n : Int
  p : PtrD
  z : ScanA
  snaps : List SnapA
  stale : List (Int × Int)
deriving DecidableEq
def snapL (x : SnapA) : List Value := [.int .i64 x.id, .int .i64 x.txg, .int .i64 x.n, .int .i64 x.p.ag, .int .i64 x.p.aa, .int .i64 x.p.bg, .int .i64 x.p.ba, .bool x.p.two, .int .i64 x.p.size, .int .i64 x.p.level, .int .i64 x.p.birth, .int .u64 x.p.s0, .int .u64 x.p.s1, .int .u64 x.p.s2, .int .u64 x.p.s3]
def snapC (l : List SnapA) : List Value := l.flatMap snapL
def staL (x : Int × Int) : List Value := [.int .i64 x.1, .int .i64 x.2]
def staC (l : List (Int × Int)) : List Value := l.flatMap staL

theorem flat_len {α : Type} (f : α → List Value) (sz : Nat) (hf : ∀ x, (f x).length = sz) : ∀ l : List α, (l.flatMap f).length = l.length * sz
  | [] => by simp
  | x :: l => by
    rw [List.flatMap_cons, List.length_append, flat_len f sz hf l, hf, List.length_cons, Nat.add_mul, Nat.one_mul, Nat.add_comm]
theorem flat_at {α : Type} (f : α → List Value) (sz : Nat) (hf : ∀ x, (f x).length = sz) : ∀ (l : List α) (i : Nat) (x : α), l[i]? = some x → ∀ j, j < sz → (l.flatMap f)[i * sz + j]? = (f x)[j]?
  | [], i, x, h, _, _ => by simp at h
  | y :: l, 0, x, h, j, hj => by
    simp at h
    subst h
    rw [List.flatMap_cons, Nat.zero_mul, Nat.zero_add, List.getElem?_append_left (by rw [hf]; exact hj)]
  | y :: l, i + 1, x, h, j, hj => by
    have h2 := flat_at f sz hf l i x (by simpa using h) j hj
    rw [List.flatMap_cons, List.getElem?_append_right (by rw [hf, Nat.add_mul, Nat.one_mul]; omega), hf, ← h2]
    congr 1
    rw [Nat.add_mul, Nat.one_mul]; omega
theorem snapC_len (l : List SnapA) : (snapC l).length = l.length * 15 := flat_len snapL 15 (fun _ => rfl) l
theorem staC_len (l : List (Int × Int)) : (staC l).length = l.length * 2 := flat_len staL 2 (fun _ => rfl) l

/-- A slice, and what its cells hold. -/
def RowAt (w : World) (v : Value) (n : Nat) (cs : List Value) : Prop :=
  ∃ A c, v = .slice A n c ∧ (0 < n → ∃ b o, A = some ⟨b, o, none⟩ ∧ b < w.heap.size ∧ ∀ j u, cs[j]? = some u → w.cell? ⟨b, o + j, none⟩ = some u)
section
variable {w w' : World} {v sv tv : Value} {n : Nat} {cs : List Value} {s : StA}
theorem RowAt.below (h : RowAt w v n cs) (hb : Below w.heap.size w w') : RowAt w' v n cs := by
  obtain ⟨A, c, h1, h2⟩ := h
  refine ⟨A, c, h1, fun hp => ?_⟩
  obtain ⟨b, o, e1, e2, e3⟩ := h2 hp
  exact ⟨b, o, e1, Nat.lt_of_lt_of_le e2 hb.size, fun j u hu => (World.cell?_of_block (hb.block b e2)).trans (e3 j u hu)⟩
theorem RowAt.below' {B : Nat} (h : RowAt w v n cs) (hb : Below B w w') (hB : B = w.heap.size) : RowAt w' v n cs := by
  subst hB; exact h.below hb
theorem RowAt.form (h : RowAt w v n cs) : ∃ A c, v = .slice A n c := by
  obtain ⟨A, c, h1, _⟩ := h
  exact ⟨A, c, h1⟩
theorem RowAt.cells {A : Option Addr} {c : Nat} (h : RowAt w (.slice A n c) n cs) (hp : 0 < n) : ∃ b o, A = some ⟨b, o, none⟩ ∧ b < w.heap.size ∧ ∀ j u, cs[j]? = some u → w.cell? ⟨b, o + j, none⟩ = some u := by
  obtain ⟨A', c', h1, h2⟩ := h
  cases h1
  exact h2 hp
theorem rowAt_own {base sz : Nat} {t : TypeId} (h : w.ownsRow base t sz v n cs) : RowAt w v n cs := by
  rcases h.2 with ⟨rfl, h0⟩ | ⟨g, cap, cur, rfl, h1, h2, h3⟩
  · subst h0
    exact ⟨none, 0, rfl, fun h => absurd h (by omega)⟩
  · refine ⟨some ⟨g, 0, none⟩, cap, rfl, fun _ => ⟨g, 0, rfl, lt_of_block h2, fun j u hu => ?_⟩⟩
    have := h.cells rfl j u hu
    rwa [Addr.add_mid] at this

/-- What a state's slices hold. -/
structure StIn (w : World) (s : StA) (sv tv : Value) : Prop where
  snaps : RowAt w sv s.snaps.length (snapC s.snaps)
  stale : RowAt w tv s.stale.length (staC s.stale)
theorem StIn.below (h : StIn w s sv tv) (hb : Below w.heap.size w w') : StIn w' s sv tv := ⟨h.1.below hb, h.2.below hb⟩
end

theorem Try.infoMSnap : (Try.prog.info? 47).map (fun i => (i.zero, i.size, i.bytes)) = some (some (.agg #[.int .i64 0, .int .i64 0, .int .i64 0, .int .i64 0, .int .i64 0, .int .i64 0, .int .i64 0, .bool false, .int .i64 0, .int .i64 0, .int .i64 0, .int .u64 0, .int .u64 0, .int .u64 0, .int .u64 0]), 15, 120) := by kernel_rfl
theorem Try.infoRSnap : (Try.prog.info? 56).map (fun i => (i.zero, i.size, i.bytes)) = some (some (.agg #[.int .i64 0, .int .i64 0, .int .i64 0, .int .i64 0, .int .i64 0, .int .i64 0, .int .i64 0, .bool false, .int .i64 0, .int .i64 0, .int .i64 0, .int .u64 0, .int .u64 0, .int .u64 0, .int .u64 0]), 15, 120) := by kernel_rfl
theorem Try.infoRange : (Try.prog.info? 49).map (fun i => (i.zero, i.size, i.bytes)) = some (some (.agg #[.int .i64 0, .int .i64 0]), 2, 16) := by kernel_rfl
theorem Try.infoPair : (Try.prog.info? 61).map (fun i => (i.zero, i.size, i.bytes)) = some (some (.agg #[.int .i64 0, .int .i64 0]), 2, 16) := by kernel_rfl

theorem Try.mstoodNode : Try.prog.stoodInHeld 30 = false := by kernel_rfl
theorem Try.stoodMSnap : Try.prog.stoodInHeld 47 = false := by kernel_rfl
theorem Try.stoodRSnap : Try.prog.stoodInHeld 56 = false := by kernel_rfl
theorem Try.stoodRange : Try.prog.stoodInHeld 49 = false := by kernel_rfl
theorem Try.stoodScan : Try.prog.stoodInHeld 40 = false := by kernel_rfl
theorem meqIn_ptr (p q : PtrD) (d : Nat) (w : World) : (Op.equalIn (d + 3) 28 (.agg #[.int .i64 p.ag, .int .i64 p.aa, .int .i64 p.bg, .int .i64 p.ba, .bool p.two, .int .i64 p.size, .int .i64 p.level, .int .i64 p.birth, .int .u64 p.s0, .int .u64 p.s1, .int .u64 p.s2, .int .u64 p.s3]) (.agg #[.int .i64 q.ag, .int .i64 q.aa, .int .i64 q.bg, .int .i64 q.ba, .bool q.two, .int .i64 q.size, .int .i64 q.level, .int .i64 q.birth, .int .u64 q.s0, .int .u64 q.s1, .int .u64 q.s2, .int .u64 q.s3])).run Try.prog w = .ok (ptrEq p q) w := by
  obtain ⟨a1, a2, a3, a4, a5, a6, a7, a8, a9, aa, ab, ac⟩ := p
  obtain ⟨b1, b2, b3, b4, b5, b6, b7, b8, b9, ba, bb, bc⟩ := q
  rw [run_equalIn_struct w (d + 2) _ _ _ (by kernel_rfl) Try.stoodPtr]
  simp [go_sem, Try.underlying28, eqIn_place, eqIn_sum, ptrEq]
  repeat' split
  all_goals (congr 1; try simp_all)
  all_goals grind
theorem eqIn_node (n m : Int) (p q : PtrD) (d : Nat) (w : World) : (Op.equalIn (d + 4) 30 (.agg #[.int .i64 n, .int .i64 p.ag, .int .i64 p.aa, .int .i64 p.bg, .int .i64 p.ba, .bool p.two, .int .i64 p.size, .int .i64 p.level, .int .i64 p.birth, .int .u64 p.s0, .int .u64 p.s1, .int .u64 p.s2, .int .u64 p.s3]) (.agg #[.int .i64 m, .int .i64 q.ag, .int .i64 q.aa, .int .i64 q.bg, .int .i64 q.ba, .bool q.two, .int .i64 q.size, .int .i64 q.level, .int .i64 q.birth, .int .u64 q.s0, .int .u64 q.s1, .int .u64 q.s2, .int .u64 q.s3])).run Try.prog w = .ok (n == m && ptrEq p q) w := by
  rw [run_equalIn_struct w (d + 3) _ _ _ (by kernel_rfl) Try.mstoodNode]
  simp [go_sem, Try.underlying30, meqIn_ptr]
  by_cases h1 : n = m <;> cases ptrEq p q <;> simp [h1]
theorem meql_node (n m : Int) (p q : PtrD) (w : World) : (binOp .eql 30 (.agg #[.int .i64 n, .int .i64 p.ag, .int .i64 p.aa, .int .i64 p.bg, .int .i64 p.ba, .bool p.two, .int .i64 p.size, .int .i64 p.level, .int .i64 p.birth, .int .u64 p.s0, .int .u64 p.s1, .int .u64 p.s2, .int .u64 p.s3]) (.agg #[.int .i64 m, .int .i64 q.ag, .int .i64 q.aa, .int .i64 q.bg, .int .i64 q.ba, .bool q.two, .int .i64 q.size, .int .i64 q.level, .int .i64 q.birth, .int .u64 q.s0, .int .u64 q.s1, .int .u64 q.s2, .int .u64 q.s3])).run Try.prog w = .ok (.bool (n == m && ptrEq p q)) w := by
  rw [run_eql_struct, eqIn_node n m p q 9996]; rfl
theorem neq_node (n m : Int) (p q : PtrD) (w : World) : (binOp .neq 30 (.agg #[.int .i64 n, .int .i64 p.ag, .int .i64 p.aa, .int .i64 p.bg, .int .i64 p.ba, .bool p.two, .int .i64 p.size, .int .i64 p.level, .int .i64 p.birth, .int .u64 p.s0, .int .u64 p.s1, .int .u64 p.s2, .int .u64 p.s3]) (.agg #[.int .i64 m, .int .i64 q.ag, .int .i64 q.aa, .int .i64 q.bg, .int .i64 q.ba, .bool q.two, .int .i64 q.size, .int .i64 q.level, .int .i64 q.birth, .int .u64 q.s0, .int .u64 q.s1, .int .u64 q.s2, .int .u64 q.s3])).run Try.prog w = .ok (.bool (!(n == m && ptrEq p q))) w := by
  rw [run_neq_struct, eqIn_node n m p q 9996]; rfl
theorem eql_msnap (x y : SnapA) (w : World) : (binOp .eql 47 (.agg #[.int .i64 x.id, .int .i64 x.txg, .int .i64 x.n, .int .i64 x.p.ag, .int .i64 x.p.aa, .int .i64 x.p.bg, .int .i64 x.p.ba, .bool x.p.two, .int .i64 x.p.size, .int .i64 x.p.level, .int .i64 x.p.birth, .int .u64 x.p.s0, .int .u64 x.p.s1, .int .u64 x.p.s2, .int .u64 x.p.s3]) (.agg #[.int .i64 y.id, .int .i64 y.txg, .int .i64 y.n, .int .i64 y.p.ag, .int .i64 y.p.aa, .int .i64 y.p.bg, .int .i64 y.p.ba, .bool y.p.two, .int .i64 y.p.size, .int .i64 y.p.level, .int .i64 y.p.birth, .int .u64 y.p.s0, .int .u64 y.p.s1, .int .u64 y.p.s2, .int .u64 y.p.s3])).run Try.prog w = .ok (.bool (decide (x = y))) w := by
  obtain ⟨a1, a2, a3, p⟩ := x
  obtain ⟨b1, b2, b3, q⟩ := y
  rw [run_eql_struct, run_equalIn_struct w 9999 _ _ _ (by kernel_rfl) Try.stoodMSnap]
  simp [go_sem, Try.underlying47, eqIn_node, ptrEq]
  by_cases h1 : a1 = b1 <;> by_cases h2 : a2 = b2 <;> by_cases h3 : a3 = b3 <;> by_cases h4 : p = q <;> simp [h1, h2, h3, h4]
theorem neq_rsnap (x y : SnapA) (w : World) : (binOp .neq 56 (.agg #[.int .i64 x.id, .int .i64 x.txg, .int .i64 x.n, .int .i64 x.p.ag, .int .i64 x.p.aa, .int .i64 x.p.bg, .int .i64 x.p.ba, .bool x.p.two, .int .i64 x.p.size, .int .i64 x.p.level, .int .i64 x.p.birth, .int .u64 x.p.s0, .int .u64 x.p.s1, .int .u64 x.p.s2, .int .u64 x.p.s3]) (.agg #[.int .i64 y.id, .int .i64 y.txg, .int .i64 y.n, .int .i64 y.p.ag, .int .i64 y.p.aa, .int .i64 y.p.bg, .int .i64 y.p.ba, .bool y.p.two, .int .i64 y.p.size, .int .i64 y.p.level, .int .i64 y.p.birth, .int .u64 y.p.s0, .int .u64 y.p.s1, .int .u64 y.p.s2, .int .u64 y.p.s3])).run Try.prog w = .ok (.bool (!decide (x = y))) w := by
  obtain ⟨a1, a2, a3, p⟩ := x
  obtain ⟨b1, b2, b3, q⟩ := y
  rw [run_neq_struct, run_equalIn_struct w 9999 _ _ _ (by kernel_rfl) Try.stoodRSnap]
  simp [go_sem, Try.underlying56, eqIn_node, ptrEq]
  by_cases h1 : a1 = b1 <;> by_cases h2 : a2 = b2 <;> by_cases h3 : a3 = b3 <;> by_cases h4 : p = q <;> simp [h1, h2, h3, h4]
theorem neq_mrange (x y : Int × Int) (w : World) : (binOp .neq 49 (.agg #[.int .i64 x.1, .int .i64 x.2]) (.agg #[.int .i64 y.1, .int .i64 y.2])).run Try.prog w = .ok (.bool (!decide (x = y))) w := by
  obtain ⟨a1, a2⟩ := x
  obtain ⟨b1, b2⟩ := y
  rw [run_neq_struct, run_equalIn_struct w 9999 _ _ _ (by kernel_rfl) Try.stoodRange]
  simp [go_sem, Try.underlying49]
  by_cases h1 : a1 = b1 <;> by_cases h2 : a2 = b2 <;> simp [h1, h2]
theorem neq_msnap (x y : SnapA) (w : World) : (binOp .neq 47 (.agg #[.int .i64 x.id, .int .i64 x.txg, .int .i64 x.n, .int .i64 x.p.ag, .int .i64 x.p.aa, .int .i64 x.p.bg, .int .i64 x.p.ba, .bool x.p.two, .int .i64 x.p.size, .int .i64 x.p.level, .int .i64 x.p.birth, .int .u64 x.p.s0, .int .u64 x.p.s1, .int .u64 x.p.s2, .int .u64 x.p.s3]) (.agg #[.int .i64 y.id, .int .i64 y.txg, .int .i64 y.n, .int .i64 y.p.ag, .int .i64 y.p.aa, .int .i64 y.p.bg, .int .i64 y.p.ba, .bool y.p.two, .int .i64 y.p.size, .int .i64 y.p.level, .int .i64 y.p.birth, .int .u64 y.p.s0, .int .u64 y.p.s1, .int .u64 y.p.s2, .int .u64 y.p.s3])).run Try.prog w = .ok (.bool (!decide (x = y))) w := by
  obtain ⟨a1, a2, a3, p⟩ := x
  obtain ⟨b1, b2, b3, q⟩ := y
  rw [run_neq_struct, run_equalIn_struct w 9999 _ _ _ (by kernel_rfl) Try.stoodMSnap]
  simp [go_sem, Try.underlying47, eqIn_node, ptrEq]
  by_cases h1 : a1 = b1 <;> by_cases h2 : a2 = b2 <;> by_cases h3 : a3 = b3 <;> by_cases h4 : p = q <;> simp [h1, h2, h3, h4]
theorem eqIn_pair (x y : Int × Int) (d : Nat) (w : World) : (Op.equalIn (d + 2) 61 (.agg #[.int .i64 x.1, .int .i64 x.2]) (.agg #[.int .i64 y.1, .int .i64 y.2])).run Try.prog w = .ok (decide (x = y)) w := by
  obtain ⟨a1, a2⟩ := x
  obtain ⟨b1, b2⟩ := y
  rw [Op.equalIn]
  simp only [Sem.run_bind, run_underlying Try.underlying61, Result.andThen_ok]
  simp [go_sem, Try.sizeOf3, Std.Legacy.Range.forIn_eq_forIn_range', Std.Legacy.Range.size, List.range']
  by_cases h1 : a1 = b1 <;> by_cases h2 : a2 = b2 <;> simp [h1, h2]
theorem neq_pair (x y : Int × Int) (w : World) : (binOp .neq 61 (.agg #[.int .i64 x.1, .int .i64 x.2]) (.agg #[.int .i64 y.1, .int .i64 y.2])).run Try.prog w = .ok (.bool (!decide (x = y))) w := by
  have h := eqIn_pair x y 9998 w
  simp only [binOp, Op.equal, Op.maxDepth, Sem.run_bind, h, Result.andThen_ok]
  rfl
theorem eqIn_scans (x y : ScanA) (d : Nat) (w : World) : (Op.equalIn (d + 2) 32 (.agg #[.int .i64 x.x0, .int .i64 x.x1, .int .i64 x.x2, .int .i64 x.x3, .int .i64 x.x4, .int .i64 x.x5, .int .i64 x.x6, .int .i64 x.x7, .int .i64 x.x8]) (.agg #[.int .i64 y.x0, .int .i64 y.x1, .int .i64 y.x2, .int .i64 y.x3, .int .i64 y.x4, .int .i64 y.x5, .int .i64 y.x6, .int .i64 y.x7, .int .i64 y.x8])).run Try.prog w = .ok (decide (x = y)) w := by
  obtain ⟨a0, a1, a2, a3, a4, a5, a6, a7, a8⟩ := x
  obtain ⟨b0, b1, b2, b3, b4, b5, b6, b7, b8⟩ := y
  rw [Op.equalIn]
  simp only [Sem.run_bind, run_underlying Try.underlying32, Result.andThen_ok]
  simp [go_sem, Try.sizeOf3, Std.Legacy.Range.forIn_eq_forIn_range', Std.Legacy.Range.size, List.range']
  repeat' split
  all_goals (congr 1; try simp_all)
theorem neq_scans (x y : ScanA) (w : World) : (binOp .neq 32 (.agg #[.int .i64 x.x0, .int .i64 x.x1, .int .i64 x.x2, .int .i64 x.x3, .int .i64 x.x4, .int .i64 x.x5, .int .i64 x.x6, .int .i64 x.x7, .int .i64 x.x8]) (.agg #[.int .i64 y.x0, .int .i64 y.x1, .int .i64 y.x2, .int .i64 y.x3, .int .i64 y.x4, .int .i64 y.x5, .int .i64 y.x6, .int .i64 y.x7, .int .i64 y.x8])).run Try.prog w = .ok (.bool (!decide (x = y))) w := by
  have h := eqIn_scans x y 9998 w
  simp only [binOp, Op.equal, Op.maxDepth, Sem.run_bind, h, Result.andThen_ok]
  rfl
theorem eql_scan (x y : ScanA) (w : World) : (binOp .eql 40 (.agg #[.int .i64 x.x0, .int .i64 x.x1, .int .i64 x.x2, .int .i64 x.x3, .int .i64 x.x4, .int .i64 x.x5, .int .i64 x.x6, .int .i64 x.x7, .int .i64 x.x8]) (.agg #[.int .i64 y.x0, .int .i64 y.x1, .int .i64 y.x2, .int .i64 y.x3, .int .i64 y.x4, .int .i64 y.x5, .int .i64 y.x6, .int .i64 y.x7, .int .i64 y.x8])).run Try.prog w = .ok (.bool (decide (x = y))) w := by
  obtain ⟨a0, a1, a2, a3, a4, a5, a6, a7, a8⟩ := x
  obtain ⟨b0, b1, b2, b3, b4, b5, b6, b7, b8⟩ := y
  rw [run_eql_struct, run_equalIn_struct w 9999 _ _ _ (by kernel_rfl) Try.stoodScan]
  simp [go_sem, Try.underlying40]
  repeat' split
  all_goals (congr 2; try simp_all)
end Go.Proofs.Ytidmbibpoldgcaa
