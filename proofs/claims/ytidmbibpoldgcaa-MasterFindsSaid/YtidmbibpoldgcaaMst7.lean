/-
  Layer 17: master.Same of unlike ones; whole rows loaded.
-/
import Derived.Test.YtidmbibpoldgcaaMst6
namespace Go.Proofs.Ytidmbibpoldgcaa
set_option linter.unusedVariables false
set_option linter.unusedSimpArgs false
open Go.RowKit

theorem quiet_loadRow {P : Program} {a : Act} {C : World → Prop} {o : Oper} {K : Act → Prop} (ty : TypeId) (x : Operand) (ho : o.op = .load ty x) (v p : Value) (hx : a.eval x = p) (h : ∀ W, C W → (Instr.loadAt ty p).run P W = .ok v W) (hk : K (a.put o.dst v)) : o.quiet P a C K :=
  ⟨v, fun W hW => by
    unfold Oper.quietAt execOp
    simp only [ho, hx, Sem.run_bind, h W hW, Sem.run_pure, Result.andThen_ok]
    exact ⟨rfl, rfl⟩, hk⟩
theorem blk_loadAt {P : Program} {w : World} {g : Nat} {t ty : TypeId} {cs : Array Value} {d : TypeDesc} (h : Blk w g t cs) (hu : P.underlying ty = some d) (hd : (match d with | .struct _ | .array _ _ => true | _ => false) = true) (hi : (P.info? ty).map (·.size) = some cs.size) :
    (Instr.loadAt ty (.pointer (some ⟨g, 0, none⟩))).run P w = .ok (.agg cs) w := by
  simp only [Instr.loadAt, Instr.sureAddr, Sem.run_bind, Sem.run_pure, Result.andThen_ok, run_loadVar_row w g t ty cs (0, 0) d h hu hd hi]
theorem stC_0 (s : StA) (sv tv : Value) (y : Int) : (stC s sv tv).setIfInBounds 0 (.int .i64 y) = stC { s with n := y } sv tv := rfl

set_option maxRecDepth 100000 in
theorem mne_any (s o : StA) (sv tv su tu : Value) (w : World) (hne : s.n ≠ o.n) :
    Calls Try.prog 11 #[.agg (stC s sv tv), .agg (stC o su tu)] w fun e w' => e = .returned (.bool false) ∧ Below w.heap.size w w' := by
  obtain ⟨cA, hcA⟩ : ∃ x, x = stC s sv tv := ⟨_, rfl⟩
  obtain ⟨cB, hcB⟩ : ∃ x, x = stC o su tu := ⟨_, rfl⟩
  rw [← hcA, ← hcB]
  obtain ⟨w1, hw1⟩ : ∃ x, (w.alloc (.cells cA 43)).alloc (.cells cB 43) = x := ⟨_, rfl⟩
  have B1 : Blk w1 w.heap.size 43 cA := by rw [← hw1]; exact (Blk.new _ _ _).alloc _
  have B2 : Blk w1 (w.heap.size + 1) 43 cB := by rw [← hw1]; exact Blk.new2 w _ _ _
  have d1 : Below w.heap.size w w1 := by rw [← hw1]; exact keep_alloc (keep_alloc (Below.refl _ _) _) _
  rw [hcA] at B1
  rw [hcB] at B2
  have b1 : ∀ i v, (stC s sv tv)[i]? = some v → w1.cell? ⟨w.heap.size, i, none⟩ = some v := fun i v hv => B1.at_ hv
  have b2 : ∀ i v, (stC o su tu)[i]? = some v → w1.cell? ⟨w.heap.size + 1, i, none⟩ = some v := fun i v hv => B2.at_ hv
  have e0 : w1.cell? ⟨w.heap.size, 0, none⟩ = some (.int .i64 s.n) := b1 0 _ rfl
  have e1 : w1.cell? ⟨w.heap.size, 1, none⟩ = some (.int .i64 s.p.ag) := b1 1 _ rfl
  have e2 : w1.cell? ⟨w.heap.size, 2, none⟩ = some (.int .i64 s.p.aa) := b1 2 _ rfl
  have e3 : w1.cell? ⟨w.heap.size, 3, none⟩ = some (.int .i64 s.p.bg) := b1 3 _ rfl
  have e4 : w1.cell? ⟨w.heap.size, 4, none⟩ = some (.int .i64 s.p.ba) := b1 4 _ rfl
  have e5 : w1.cell? ⟨w.heap.size, 5, none⟩ = some (.bool s.p.two) := b1 5 _ rfl
  have e6 : w1.cell? ⟨w.heap.size, 6, none⟩ = some (.int .i64 s.p.size) := b1 6 _ rfl
  have e7 : w1.cell? ⟨w.heap.size, 7, none⟩ = some (.int .i64 s.p.level) := b1 7 _ rfl
  have e8 : w1.cell? ⟨w.heap.size, 8, none⟩ = some (.int .i64 s.p.birth) := b1 8 _ rfl
  have e9 : w1.cell? ⟨w.heap.size, 9, none⟩ = some (.int .u64 s.p.s0) := b1 9 _ rfl
  have e10 : w1.cell? ⟨w.heap.size, 10, none⟩ = some (.int .u64 s.p.s1) := b1 10 _ rfl
  have e11 : w1.cell? ⟨w.heap.size, 11, none⟩ = some (.int .u64 s.p.s2) := b1 11 _ rfl
  have e12 : w1.cell? ⟨w.heap.size, 12, none⟩ = some (.int .u64 s.p.s3) := b1 12 _ rfl
  have g0 : w1.cell? ⟨w.heap.size + 1, 0, none⟩ = some (.int .i64 o.n) := b2 0 _ rfl
  have g1 : w1.cell? ⟨w.heap.size + 1, 1, none⟩ = some (.int .i64 o.p.ag) := b2 1 _ rfl
  have g2 : w1.cell? ⟨w.heap.size + 1, 2, none⟩ = some (.int .i64 o.p.aa) := b2 2 _ rfl
  have g3 : w1.cell? ⟨w.heap.size + 1, 3, none⟩ = some (.int .i64 o.p.bg) := b2 3 _ rfl
  have g4 : w1.cell? ⟨w.heap.size + 1, 4, none⟩ = some (.int .i64 o.p.ba) := b2 4 _ rfl
  have g5 : w1.cell? ⟨w.heap.size + 1, 5, none⟩ = some (.bool o.p.two) := b2 5 _ rfl
  have g6 : w1.cell? ⟨w.heap.size + 1, 6, none⟩ = some (.int .i64 o.p.size) := b2 6 _ rfl
  have g7 : w1.cell? ⟨w.heap.size + 1, 7, none⟩ = some (.int .i64 o.p.level) := b2 7 _ rfl
  have g8 : w1.cell? ⟨w.heap.size + 1, 8, none⟩ = some (.int .i64 o.p.birth) := b2 8 _ rfl
  have g9 : w1.cell? ⟨w.heap.size + 1, 9, none⟩ = some (.int .u64 o.p.s0) := b2 9 _ rfl
  have g10 : w1.cell? ⟨w.heap.size + 1, 10, none⟩ = some (.int .u64 o.p.s1) := b2 10 _ rfl
  have g11 : w1.cell? ⟨w.heap.size + 1, 11, none⟩ = some (.int .u64 o.p.s2) := b2 11 _ rfl
  have g12 : w1.cell? ⟨w.heap.size + 1, 12, none⟩ = some (.int .u64 o.p.s3) := b2 12 _ rfl
  have HD1 := Lib.hid d1
  clear hcA hcB b1 b2 B1 B2 d1
  have qn := fun W => meql_node s.n o.n s.p o.p W
  have hn : (s.n == o.n && ptrEq s.p o.p) = false := by rw [beq_eq_false_iff_ne.2 hne]; rfl
  rw [hn] at qn
  clear hn hne
  go_enter Try.func11, Try.ntmps11
  go_wp2_with fail
  go_ret
  exact ⟨rfl, HD1.out⟩
end Go.Proofs.Ytidmbibpoldgcaa
