/-
  A block that is known whole; worlds in which one old block alone has turned.
-/
import Derived.Test.YtckicdbiiepngaaCls
import Derived.Deep.MidRow
namespace Go.Proofs.Ytckicdbiiepngaa
set_option linter.unusedVariables false
set_option linter.unusedSimpArgs false
open Go.RowKit

/-- A mark: the walk stands at a region that draws its order (go_step would try long there). -/
theorem drawn_mark {P : Program} {id : Nat} {ops : Array Oper} {Q : Exit → Act → World → Prop} {a : Act} {w : World} (h : (Code.region id ops true).wp P Q a w) : (Code.region id ops true).wp P Q a w := h

/-- Block g is just these cells. -/
def Blk (w : World) (g : Nat) (t : TypeId) (cs : Array Value) : Prop := w.heap[g]? = some (.cells cs t (0, 0))
section
variable {w w' : World} {g : Nat} {t : TypeId} {cs : Array Value}
theorem Blk.lt (h : Blk w g t cs) : g < w.heap.size := lt_of_block h
theorem Blk.at_ (h : Blk w g t cs) {i : Nat} {v : Value} (hv : cs[i]? = some v) : w.cell? ⟨g, i, none⟩ = some v := (cell_of_row w g i cs t (0, 0) h).trans hv
theorem Blk.fr (h : Blk w g t cs) (i : Nat) : w.frozen? ⟨g, i, none⟩ = false := by unfold Blk at h; simp [World.frozen?, h]
theorem Blk.new (w : World) (t : TypeId) (cs : Array Value) : Blk (w.alloc (.cells cs t)) w.heap.size t cs := heap_alloc_new w _
theorem Blk.new2 (w : World) (o : Obj) (t : TypeId) (cs : Array Value) : Blk ((w.alloc o).alloc (.cells cs t)) (w.heap.size + 1) t cs := by
  have := Blk.new (w.alloc o) t cs
  rwa [World.size_alloc] at this
theorem Blk.drew (h : Blk w g t cs) : Blk w.drew g t cs := h
theorem Blk.drewN (h : Blk w g t cs) (n : Nat) : Blk (w.drewN n) g t cs := h
theorem Blk.alloc (h : Blk w g t cs) (o : Obj) : Blk (w.alloc o) g t cs := (Below.heap_alloc w o g h.lt).trans h
theorem Blk.put (h : Blk w g t cs) (i : Nat) (u : Value) : Blk (w.setCell ⟨g, i, none⟩ u) g t (cs.setIfInBounds i u) := by
  unfold Blk at h ⊢
  simp [World.setCell, Array.getElem?_modify, h]
theorem Blk.far (h : Blk w g t cs) {p : Addr} (hp : g ≠ p.block) (u : Value) : Blk (w.setCell p u) g t cs := (Below.heap_setCell w p u g hp).trans h
theorem Blk.below {B : Nat} (h : Blk w g t cs) (hb : Below B w w') (hg : g < B) : Blk w' g t cs := (hb.block g hg).trans h
theorem Blk.grown {r : Nat} (h : Blk w g t cs) (hG : w.grownBy w' (some r)) (hne : g ≠ r) : Blk w' g t cs := (hG.block g h.lt (fun e => hne (by injection e))).trans h
end

/-- A whole row, read by an operation that is wanted. -/
theorem wpList_load_want {P : Program} {ops : Array Oper} {rest : List Oper} {o : Oper} {a : Act} {w : World} {Q : Exit → Act → World → Prop} (hw : Region.wanted o (yielded ops a.tmps) = true) (ty : TypeId) (x : Operand) (ho : o.op = .load ty x)
    (g : Nat) (hx : a.eval x = .pointer (some ⟨g, 0, none⟩)) (t : TypeId) (cs : Array Value) (d : TypeDesc) (hg : Blk w g t cs)
    (hu : P.underlying ty = some d) (hd : (match d with | .struct _ | .array _ _ => true | _ => false) = true) (hi : (P.info? ty).map (·.size) = some cs.size)
    (h : wpList P ops Q rest (a.put o.dst (.agg cs)) w) : wpList P ops Q (o :: rest) a w :=
  wpList_step fun K hK => by
    rw [if_pos hw]
    exact wp_load_row ty x ho g hx t cs (0, 0) d hg hu hd hi (hK _ _ h)

/-- A value that is built of parts, by an operation that is wanted, where what it comes to is known. -/
theorem wpList_build_want {P : Program} {ops : Array Oper} {rest : List Oper} {o : Oper} {a : Act} {w : World} {Q : Exit → Act → World → Prop} (hw : Region.wanted o (yielded ops a.tmps) = true) (ty : TypeId) (parts : Array (Nat × Operand)) (ho : o.op = .build ty parts)
    (ps : Array (Nat × Value)) (hps : (parts.map fun (i, x) => (i, a.eval x)) = ps) (v : Value) (hb : (Instr.build ty ps).run P w = .ok v w)
    (h : wpList P ops Q rest (a.put o.dst v) w) : wpList P ops Q (o :: rest) a w :=
  wpList_step fun K hK => by
    rw [if_pos hw]
    unfold Oper.wp execOp
    subst hps
    simp only [ho, hb, Sem.run_bind, Sem.run_pure, Result.andThen_ok]
    exact hK _ _ h

/-- Cells from o on, written one after the other. -/
def wrFrom (A : Array Value) (o : Nat) : List Value → Array Value
  | [] => A
  | v :: r => wrFrom (A.setIfInBounds o v) (o + 1) r
theorem wrFrom_get : ∀ (vs : List Value) (A : Array Value) (o i : Nat), o + vs.length ≤ A.size → (wrFrom A o vs)[i]? = if o ≤ i ∧ i < o + vs.length then vs[i - o]? else A[i]?
  | [], A, o, i, _ => by rw [if_neg (by rw [List.length_nil]; omega)]; rfl
  | v :: r, A, o, i, h => by
    rw [List.length_cons] at h
    rw [wrFrom, wrFrom_get r _ _ _ (by rw [Array.size_setIfInBounds]; omega), Array.getElem?_setIfInBounds]
    by_cases h1 : o = i
    · subst h1
      rw [if_neg (by omega), if_pos rfl, if_pos (by omega), if_pos (by rw [List.length_cons]; omega), Nat.sub_self]; rfl
    · by_cases h2 : o + 1 ≤ i ∧ i < o + 1 + r.length
      · rw [if_pos h2, if_pos (by rw [List.length_cons]; omega), show i - o = (i - (o + 1)) + 1 by omega]; rfl
      · rw [if_neg h2, if_neg h1, if_neg (by rw [List.length_cons]; omega)]
theorem wrFrom_all (A : Array Value) (vs : List Value) (h : A.size = vs.length) : wrFrom A 0 vs = vs.toArray := by
  have hsz : ∀ (vs : List Value) (A : Array Value) (o : Nat), (wrFrom A o vs).size = A.size := by
    intro vs
    induction vs with
    | nil => intro A o; rfl
    | cons v r ih => intro A o; rw [wrFrom, ih]; simp
  apply Array.ext_getElem?
  intro i
  rw [wrFrom_get vs A 0 i (by omega)]
  by_cases hi : i < vs.length
  · rw [if_pos (by omega)]; simp
  · rw [if_neg (by omega), Array.getElem?_eq_none (by omega), Array.getElem?_eq_none (by simp; omega)]
theorem Blk.puts {g : Nat} {t : TypeId} : ∀ (vs : List Value) (o : Nat) {w : World} {A : Array Value}, Blk w g t A → Blk (w.setCells g o vs) g t (wrFrom A o vs)
  | [], _, _, _, h => h
  | v :: r, o, _, _, h => by
    rw [World.setCells, wrFrom]
    exact Blk.puts r (o + 1) (h.put o v)
theorem Blk.putAll {g : Nat} {t : TypeId} {w : World} {A : Array Value} (h : Blk w g t A) (vs : Array Value) (hs : A.size = vs.size) : Blk (w.setCells g 0 vs.toList) g t vs := by
  have := h.puts vs.toList 0
  rwa [wrFrom_all A vs.toList (by simpa using hs)] at this
theorem below_sets {B : Nat} {a : World} {g : Nat} : ∀ (vs : List Value) (o : Nat) {w : World}, Below B a w → B ≤ g → Below B a (w.setCells g o vs)
  | [], _, _, h, _ => h
  | v :: r, o, _, h, hg => by
    rw [World.setCells]
    exact below_sets r (o + 1) (Below.setCell h hg v) hg
theorem Blk.fars {g b : Nat} {t : TypeId} {A : Array Value} (hne : g ≠ b) : ∀ (vs : List Value) (o : Nat) {w : World}, Blk w g t A → Blk (w.setCells b o vs) g t A
  | [], _, _, h => h
  | v :: r, o, _, h => by
    rw [World.setCells]
    exact Blk.fars hne r (o + 1) (h.far (by simpa using hne) v)
theorem Blk.there {g : Nat} {t : TypeId} {w : World} {A : Array Value} (h : Blk w g t A) {o n : Nat} (hn : o + n ≤ A.size) : w.there g o n := fun j hj => by
  refine ⟨?_, h.fr _⟩
  rw [h.at_ (Array.getElem?_eq_getElem (by omega))]; rfl

section
variable {a w w' : World} {r : Nat}
theorem below_set {B : Nat} (h : Below B a w) (g i : Nat) (u : Value) (hg : B ≤ g) : Below B a (w.setCell ⟨g, i, none⟩ u) := Below.setCell h hg u
theorem only_then {b : Nat} (h : a.grownBy w (some r)) (k : w.grownBy w' (some b)) (hb : b = r ∨ a.heap.size ≤ b) : a.grownBy w' (some r) :=
  ⟨k.os.trans h.os, k.tape.trans h.tape, k.output.trans h.output, Nat.le_trans h.size k.size, fun i hi hne => (k.block i (Nat.lt_of_lt_of_le hi h.size) (by
    intro e
    injection e with e
    rcases hb with hb | hb
    · exact hne (by rw [e, hb])
    · omega)).trans (h.block i hi hne)⟩
theorem only_drew (h : a.grownBy w (some r)) : a.grownBy w.drew (some r) := ⟨h.os, h.tape, h.output, h.size, h.block⟩
theorem only_alloc (h : a.grownBy w (some r)) (o : Obj) : a.grownBy (w.alloc o) (some r) :=
  ⟨h.os, h.tape, h.output, Nat.le_trans h.size (by simp), fun i hi hne => (Below.heap_alloc w o i (Nat.lt_of_lt_of_le hi h.size)).trans (h.block i hi hne)⟩
theorem only_set (h : a.grownBy w (some r)) {p : Addr} (hp : p.block = r ∨ a.heap.size ≤ p.block) (u : Value) : a.grownBy (w.setCell p u) (some r) :=
  ⟨h.os, h.tape, h.output, by simpa [World.setCell] using h.size, fun i hi hne => (Below.heap_setCell w p u i (by
    rintro rfl
    rcases hp with hp | hp
    · exact hne (by rw [hp])
    · omega)).trans (h.block i hi hne)⟩
theorem only_below (h : a.grownBy w (some r)) (hb : Below w.heap.size w w') : a.grownBy w' (some r) :=
  ⟨hb.os.trans h.os, hb.tape.trans h.tape, hb.output.trans h.output, Nat.le_trans h.size hb.size, fun i hi hne => (hb.block i (Nat.lt_of_lt_of_le hi h.size)).trans (h.block i hi hne)⟩
/-- What turned is new: then nothing old has. -/
theorem below_only (h : Below a.heap.size a w) (hG : w.grownBy w' (some r)) (hr : a.heap.size ≤ r) : Below a.heap.size a w' :=
  ⟨hG.os.trans h.os, hG.tape.trans h.tape, hG.output.trans h.output, Nat.le_trans h.size hG.size, fun i hi => (hG.block i (Nat.lt_of_lt_of_le hi h.size) (by intro e; injection e; omega)).trans (h.block i hi)⟩
end
end Go.Proofs.Ytckicdbiiepngaa
