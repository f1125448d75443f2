/-
  Maps keyed by ints, their elements taken as they stand: a map in memory is a function from ints to values. No program stands here.
  Worlds in which, of the blocks that were there, some alone have turned. No program stands here.
  A device, in plain words: what stands on the medium, what was written since, whether it is lost, the fuse. No program stands here.
  A device in memory; contracts of package dev: Lost, Secs, may, burnt, now, Read.
  Contracts of package dev: New, Fresh, Write; a sector full of a byte.
-/
import Derived.Test.YtlpbbjjibnbooaaGreatDoorJ01
import Derived.Maps.OwnSet
import Derived.Maps.RangeWalk
import Derived.Lib.SlKeysI
import Derived.Test.YtlpbbjjibnbooaaGreatDoorRows
import Derived.Test.YtlpbbjjibnbooaaGreatDoorShelf
import Derived.StillTailTactics
import Derived.Maps.AppendAt
namespace Go.Proofs.YtlpbbjjibnbooaaGreatDoor
set_option linter.unusedVariables false
set_option linter.unusedSimpArgs false
open Go.RowKit Go.Maps Go.ChangeMaps
open Go.MapKept (stamped_empty)

/-- An element reads as itself. -/
def RV (v : Value) : Option (DataW Value × List MemPlace) := some (.held v, [])
def wfz (k : Int) : Prop := (Lit.int .i64 k).wf = true
theorem wfz_in {k : Int} (h1 : -9223372036854775808 ≤ k) (h2 : k ≤ 9223372036854775807) : wfz k := by
  unfold wfz; exact WalkArith.wf_i64 ⟨h1, h2⟩
/-- What a datum holds at each int. -/
def MapFn (D : DataW Value) (f : Int → Option Value) : Prop :=
  (∀ k, ¬ wfz k → f k = none) ∧ ∀ k, wfz k → match f k with | none => has D (.int .i64 k) = false | some v => ∀ z, D.atKey (.int .i64 k) z = .held v
/-- Block b is a map of at most n entries that holds f. -/
def MapAt (P : Program) (kt : TypeId) (w : World) (b n : Nat) (f : Int → Option Value) : Prop := ∃ D : DataW Value, w.ownsMap P kt RV b n D ∧ MapFn D f

theorem MapFn.has_eq {D : DataW Value} {f : Int → Option Value} (h : MapFn D f) {k : Int} (hk : wfz k) : has D (.int .i64 k) = (f k).isSome := by
  have := h.2 k hk
  cases hf : f k with
  | none => rw [hf] at this; exact this
  | some v => rw [hf] at this; exact has_true_of_atKey this
theorem MapFn.at_ {D : DataW Value} {f : Int → Option Value} (h : MapFn D f) {k : Int} (hk : wfz k) (z : Value) : D.atKey (.int .i64 k) (.held z) = .held ((f k).getD z) := by
  have := h.2 k hk
  cases hf : f k with
  | none => rw [hf] at this; exact atKey_of_not_has this _
  | some v => rw [hf] at this; exact this _
theorem keyLit (k : Int) : WideAt.IsKeyLit (.int .i64 k) := trivial
theorem MapFn.put {D : DataW Value} {f : Int → Option Value} (h : MapFn D f) (hD : IsMap D) {k : Int} (hk : wfz k) (v : Value) : MapFn (D.put (.int .i64 k) (.held v)) (fun j => if j = k then some v else f j) := by
  refine ⟨fun j hj => by
    show (if j = k then some v else f j) = none
    rw [if_neg (by rintro rfl; exact hj hk)]; exact h.1 j hj, fun j hj => ?_⟩
  by_cases e : j = k
  · subst e
    simp only [if_true]
    exact fun z => atKey_put_same hD (keyLit _) _ _
  · have hne : (Lit.int .i64 j) ≠ .int .i64 k := by simpa using e
    simp only [if_neg e]
    have := h.2 j hj
    cases hf : f j with
    | none => rw [hf] at this; simp only; rw [has_put_other hne]; exact this
    | some u => rw [hf] at this; simp only; intro z; rw [atKey_put_other hne]; exact this z
theorem mapFn_empty : MapFn (.map [] : DataW Value) (fun _ => none) := ⟨fun _ _ => rfl, fun _ _ => rfl⟩

section
variable {P : Program} {kt : TypeId} {w w' : World} {b n : Nat} {f : Int → Option Value}
theorem MapAt.lt (h : MapAt P kt w b n f) : b < w.heap.size := h.choose_spec.1.lt
theorem MapAt.mono (h : MapAt P kt w b n f) {m : Nat} (hm : n ≤ m) : MapAt P kt w b m f := by
  obtain ⟨D, ho, hf⟩ := h
  exact ⟨D, ho.mono hm, hf⟩
theorem MapAt.same (h : MapAt P kt w b n f) (hb : w'.heap[b]? = w.heap[b]?) : MapAt P kt w' b n f := by
  obtain ⟨D, ⟨es, c, e1, r⟩, hf⟩ := h
  exact ⟨D, ⟨es, c, hb.trans e1, r⟩, hf⟩
theorem mapAt_made (w : World) (P : Program) (kt : TypeId) : MapAt P kt (w.alloc (.map #[] 0)) w.heap.size 0 (fun _ => none) := ⟨_, World.ownsMap_made w P kt RV, mapFn_empty⟩
/-- 'm[k]'. -/
theorem MapAt.look {t et : TypeId} {z : Value} (h : MapAt P kt w b n f) (hk : P.underlying kt = some (.int .i64)) (ht : P.underlying t = some (.map kt et)) (hz : (zeroValue et).run P w = .ok z w) {k : Int} (hw : wfz k) :
    (Instr.lookup t (.map (some b)) (.int .i64 k) false).run P w = .ok ((f k).getD z) w := by
  obtain ⟨D, ho, hf⟩ := h
  obtain ⟨v, ps, hr, hv⟩ := ho.lookup (int_keyed hk) ht hz (zd := .held z) (zp := []) rfl (keyOf_int_mk hk hw)
  rw [hf.at_ hw] at hv
  have : v = (f k).getD z := by simpa [RV] using congrArg (fun x => x.map Prod.fst) hv
  rw [← this]; exact hr
/-- 'm[k] = v'. -/
theorem MapAt.store {t et : TypeId} (h : MapAt P kt w b n f) (hk : P.underlying kt = some (.int .i64)) (ht : P.underlying t = some (.map kt et)) (hn : n < maxLen) {k : Int} (hw : wfz k) (v : Value) :
    ∃ w', (Instr.mapUpdate t (.map (some b)) (.int .i64 k) v).run P w = .ok () w' ∧ MapAt P kt w' b (n + 1) (fun j => if j = k then some v else f j) ∧ w.grownBy w' (some b) ∧ w'.heap.size = w.heap.size := by
  obtain ⟨D, ho, hf⟩ := h
  obtain ⟨w', hr, ho', ht'⟩ := ho.store (int_keyed hk) ht hn (keyOf_int_mk hk hw) (d := .held v) (ps := []) (val := v) rfl
  refine ⟨w', hr, ⟨_, ho', hf.put ho.isMap hw v⟩, ht'.grown, ?_⟩
  obtain ⟨_, _, _, _, _, rfl⟩ := ht'
  simp [setBlock]
/-- 'clear(m)'. -/
theorem MapAt.clear {t et ty : TypeId} (h : MapAt P kt w b n f) (ht : P.underlying t = some (.map kt et)) :
    ∃ w', (Builtin.clear_ #[t] ty #[.map (some b)]).run P w = .ok (.tuple #[]) w' ∧ MapAt P kt w' b 0 (fun _ => none) ∧ w.grownBy w' (some b) ∧ w'.heap.size = w.heap.size := by
  obtain ⟨D, ⟨es, c, hb, F, hs, hD⟩, hf⟩ := h
  refine ⟨setBlock w b (.map #[] c), ?_, ⟨.map [], ⟨#[], c, heap_setBlock_same hb _, ⟨by simp, stamped_empty c, by simp⟩, Nat.le_refl _, rfl⟩, mapFn_empty⟩, ⟨rfl, rfl, rfl, by simp [setBlock], fun i _ hi => heap_setBlock_other hb _ (fun e => hi (by rw [e]))⟩, by simp [setBlock]⟩
  simp [Builtin.clear_, run_underlying ht, MapKept.run_getObj_map hb, MapKept.run_setObj_map _ hb, Result.andThen, setBlock]
/-- 'len(m)'. -/
theorem MapAt.len {t et ty : TypeId} (h : MapAt P kt w b n f) (ht : P.underlying t = some (.map kt et)) : ∃ s : Nat, s ≤ n ∧ (Builtin.len_ #[t] ty #[.map (some b)]).run P w = .ok (.int .i64 s) w := by
  obtain ⟨D, ho, hf⟩ := h
  exact ⟨_, ho.size_le, ho.len ht ty⟩

theorem nodup_le : ∀ (N : Nat) (l : List Int), l.Nodup → (∀ x ∈ l, 0 ≤ x ∧ x < N) → l.length ≤ N
  | 0, [], _, _ => Nat.le_refl _
  | 0, x :: r, _, h => by have := h x (by simp); omega
  | N + 1, l, hd, h => by
    have h1 := nodup_le N (l.erase (N : Int)) (hd.erase _) (fun x hx => by
      have := h x (List.mem_of_mem_erase hx)
      have hne : x ≠ (N : Int) := fun e => by rw [e] at hx; exact (hd.not_mem_erase) hx
      omega)
    have h2 := List.length_erase (l := l) (a := (N : Int))
    split at h2 <;> omega

theorem mapAt_keys {D : DataW Value} (ho : w.ownsMap P kt RV b n D) (hk : P.underlying kt = some (.int .i64)) (hf : MapFn D f) : (intKeys D).Nodup ∧ (∀ x, x ∈ intKeys D ↔ (f x).isSome = true) ∧ size D = (intKeys D).length := by
  have hwf := intKeys_wf ho hk
  obtain ⟨es, rfl, hpw, _⟩ := ho.entries (int_keyed hk)
  obtain ⟨es', hD', hko⟩ := ho.keysOf
  obtain rfl : es = es' := by simpa using hD'
  have hko : ∀ p ∈ es, ∃ x, p.1 = .int .i64 x := fun p hp => by obtain ⟨v, hv⟩ := hko p hp; obtain ⟨x, _, hx, _⟩ := Maps.keyOf_i64 hk hv; exact ⟨x, hx⟩
  refine ⟨?_, fun x => ?_, by simp [size, intKeys]⟩
  · show (es.map fun p => Go.intOf p.1).Nodup
    refine List.pairwise_map.2 (hpw.imp_of_mem fun {p q} hp' hq' hne e => hne ?_)
    obtain ⟨a, ha⟩ := hko p hp'
    obtain ⟨b, hb⟩ := hko q hq'
    rw [ha, hb] at e ⊢
    exact congrArg _ e
  · have hm : x ∈ intKeys (.map es : DataW Value) ↔ has (.map es : DataW Value) (.int .i64 x) = true := by
      rw [has_eq, List.any_eq_true]
      show x ∈ es.map (fun p => Go.intOf p.1) ↔ _
      rw [List.mem_map]
      constructor
      · rintro ⟨p, hp', rfl⟩
        obtain ⟨a, ha⟩ := hko p hp'
        exact ⟨p, hp', by rw [ha]; simp [Lit.sameKey, Go.intOf]⟩
      · rintro ⟨p, hp', hs⟩
        obtain ⟨a, ha⟩ := hko p hp'
        rw [ha] at hs
        exact ⟨p, hp', by rw [ha]; simpa [Lit.sameKey, Go.intOf] using hs⟩
    rw [hm]
    by_cases hw : wfz x
    · rw [hf.has_eq hw]
    · rw [hf.1 x hw]
      constructor
      · intro h; exact absurd (hwf x (hm.2 h)) hw
      · intro h; cases h
/-- The bound anew, of keys from 0 to N. -/
theorem MapAt.few (h : MapAt P kt w b n f) (hk : P.underlying kt = some (.int .i64)) {N : Nat} (hN : ∀ x, (f x).isSome = true → 0 ≤ x ∧ x < N) : MapAt P kt w b N f := by
  obtain ⟨D, ho, hf⟩ := h
  obtain ⟨h1, h2, h3⟩ := mapAt_keys ho hk hf
  have hl : size D ≤ N := by rw [h3]; exact nodup_le N _ h1 (fun x hx => hN x ((h2 x).1 hx))
  refine ⟨D, ?_, hf⟩
  obtain ⟨es, c, hb, F, hs, rfl⟩ := ho
  exact ⟨es, c, hb, F, by simpa [size, length_sorted] using hl, rfl⟩
/-- 'for k, v := range m' under way. -/
def RanAt (P : Program) (kt : TypeId) (w : World) (b r n : Nat) (f : Int → Option Value) (left : Int → Bool) (cnt : Nat) : Prop :=
  ∃ (D : DataW Value) (lf : Lit → Bool), w.ranges P kt RV b r n D lf cnt ∧ MapFn D f ∧ ∀ k, wfz k → left k = lf (.int .i64 k)
theorem RanAt.own {r : Nat} {left : Int → Bool} {cnt : Nat} (h : RanAt P kt w b r n f left cnt) : MapAt P kt w b n f := by
  obtain ⟨D, lf, hr, hf, _⟩ := h
  exact ⟨D, hr.owns, hf⟩
theorem RanAt.kept {r : Nat} {left : Int → Bool} {cnt : Nat} (h : RanAt P kt w b r n f left cnt) (hb : w'.heap[b]? = w.heap[b]?) (hr : w'.heap[r]? = w.heap[r]?) : RanAt P kt w' b r n f left cnt := by
  obtain ⟨D, lf, ⟨es, c, since, seen, c0, e1, e2, e3, e4, e5, rest⟩, hf⟩ := h
  exact ⟨D, lf, ⟨es, c, since, seen, c0, hb.trans e1, e2, e3, e4, hr.trans e5, rest⟩, hf⟩
theorem RanAt.lt {r : Nat} {left : Int → Bool} {cnt : Nat} (h : RanAt P kt w b r n f left cnt) : b < w.heap.size ∧ r < w.heap.size := by
  obtain ⟨D, lf, hr, hf, _⟩ := h
  exact ⟨hr.owns.lt, hr.lt⟩
end

/-! ### at the operations, for the walk -/
section
variable {P : Program} {w : World} {ops : Array Oper} {rest : List Oper} {o : Oper} {a : Act} {Q : Exit → Act → World → Prop}
theorem wpList_map_store (hg : o.guard = none) (m x v : Operand) (t : TypeId) (hop : o.op = Op.mapUpdate t m x v) (kt et : TypeId) (hk : P.underlying kt = some (.int .i64)) (ht : P.underlying t = some (.map kt et))
    (b n : Nat) (f : Int → Option Value) (hm : a.eval m = .map (some b)) (hown : MapAt P kt w b n f) (hn : n < maxLen) (k : Int) (u : Value) (hx : a.eval x = .int .i64 k) (hv : a.eval v = u) (hw : wfz k)
    (hK : ∀ w', MapAt P kt w' b (n + 1) (fun j => if j = k then some u else f j) → w.grownBy w' (some b) → w'.heap.size = w.heap.size → wpList P ops Q rest (a.put o.dst undef) w') :
    wpList P ops Q (o :: rest) a w := by
  refine wpList_plain hg fun K' hK' => ?_
  obtain ⟨w', hrun, r1, r2, r3⟩ := hown.store hk ht hn hw u
  unfold Oper.wp
  simp [execOp, hop, hm, hx, hv, hrun, Result.andThen]
  exact hK' _ _ (hK w' r1 r2 r3)
end
end Go.Proofs.YtlpbbjjibnbooaaGreatDoor

namespace Go.Proofs.YtlpbbjjibnbooaaGreatDoor
set_option linter.unusedVariables false
set_option linter.unusedSimpArgs false
open Go.RowKit

/-- Of the blocks that were there, those of S alone have turned. -/
structure Only (S : Nat → Prop) (w w' : World) : Prop where
  os : w'.os = w.os
  tape : w'.tape = w.tape
  output : w'.output = w.output
  size : w.heap.size ≤ w'.heap.size
  block : ∀ i, i < w.heap.size → ¬ S i → w'.heap[i]? = w.heap[i]?
section
variable {S T : Nat → Prop} {a b c w w' : World}
theorem Only.refl (S : Nat → Prop) (w : World) : Only S w w := ⟨rfl, rfl, rfl, Nat.le_refl _, fun _ _ _ => rfl⟩
theorem Only.trans (h : Only S a b) (k : Only T b c) (hT : ∀ i, T i → S i ∨ a.heap.size ≤ i) : Only S a c :=
  ⟨k.os.trans h.os, k.tape.trans h.tape, k.output.trans h.output, Nat.le_trans h.size k.size, fun i hi hn => (k.block i (Nat.lt_of_lt_of_le hi h.size) (fun ht => by
    rcases hT i ht with h1 | h1
    · exact hn h1
    · omega)).trans (h.block i hi hn)⟩
theorem Only.mono (h : Only S a b) (hT : ∀ i, i < a.heap.size → S i → T i) : Only T a b := ⟨h.os, h.tape, h.output, h.size, fun i hi hn => h.block i hi (fun hs => hn (hT i hi hs))⟩
theorem Only.of_below (h : Below w.heap.size w w') : Only S w w' := ⟨h.os, h.tape, h.output, h.size, fun i hi _ => h.block i hi⟩
theorem Only.of_grown {r : Nat} (h : w.grownBy w' (some r)) (hr : S r) : Only S w w' := ⟨h.os, h.tape, h.output, h.size, fun i hi hn => h.block i hi (by rintro e; injection e with e; exact hn (e ▸ hr))⟩
theorem Only.of_grown' {r : Option Nat} (h : w.grownBy w' r) (hr : ∀ b, r = some b → S b) : Only S w w' := ⟨h.os, h.tape, h.output, h.size, fun i hi hn => h.block i hi (fun e => hn (hr i e.symm))⟩
theorem Only.alloc (h : Only S a w) (o : Obj) : Only S a (w.alloc o) :=
  ⟨h.os, h.tape, h.output, Nat.le_trans h.size (by simp), fun i hi hn => (Below.heap_alloc w o i (Nat.lt_of_lt_of_le hi h.size)).trans (h.block i hi hn)⟩
theorem Only.drew (h : Only S a w) : Only S a w.drew := ⟨h.os, h.tape, h.output, h.size, h.block⟩
theorem Only.drewN (h : Only S a w) (n : Nat) : Only S a (w.drewN n) := ⟨h.os, h.tape, h.output, h.size, h.block⟩
theorem Only.set (h : Only S a w) {p : Addr} (hp : S p.block ∨ a.heap.size ≤ p.block) (u : Value) : Only S a (w.setCell p u) :=
  ⟨h.os, h.tape, h.output, by simpa [World.setCell] using h.size, fun i hi hn => (Below.heap_setCell w p u i (by
    rintro rfl
    rcases hp with hp | hp
    · exact hn hp
    · omega)).trans (h.block i hi hn)⟩
theorem Only.then_below (h : Only S a w) (k : Below w.heap.size w w') : Only S a w' := h.trans (Only.of_below (S := fun _ => False) k) (fun _ h => h.elim)
theorem Only.below {B : Nat} (h : Only S w w') (hB : B ≤ w.heap.size) (hS : ∀ i, S i → B ≤ i) : Below B w w' :=
  ⟨h.os, h.tape, h.output, h.size, fun i hi => h.block i (by omega) (fun hs => by have := hS i hs; omega)⟩
theorem Only.heap (h : Only S w w') {i : Nat} {o : Obj} (hi : w.heap[i]? = some o) (hn : ¬ S i) : w'.heap[i]? = some o := (h.block i (Array.getElem?_eq_some_iff.1 hi).1 hn).trans hi

/-- The blocks of S, and those that are new since. -/
def more (S : Nat → Prop) (w w' : World) : Nat → Prop := fun i => S i ∨ (w.heap.size ≤ i ∧ i < w'.heap.size)
end

/-- A row that is owned, by what its block holds. -/
theorem ownsRow_same {w w' : World} {base n size : Nat} {e : TypeId} {v : Value} {xs : List Value} (h : w.ownsRow base e size v n xs) (hb : ∀ b, v.ownBlock = some b → w'.heap[b]? = w.heap[b]?) : w'.ownsRow base e size v n xs := by
  refine ⟨h.1, ?_⟩
  rcases h.2 with hn | ⟨g, cap, cur, rfl, h1, h2, h3⟩
  · exact .inl hn
  · exact .inr ⟨g, cap, cur, rfl, h1, (hb g rfl).trans h2, h3⟩
theorem ownsRow_zero {w : World} {base n size : Nat} {e : TypeId} {v : Value} {xs : List Value} (h : w.ownsRow base e size v n xs) : w.ownsRow 0 e size v n xs := by
  refine ⟨h.1, ?_⟩
  rcases h.2 with hn | ⟨g, cap, cur, rfl, h1, h2⟩
  · exact .inl hn
  · exact .inr ⟨g, cap, cur, rfl, Nat.zero_le _, h2⟩
/-- One cell of an owned row, of elements of one cell. -/
theorem ownsRow_cell {w : World} {base n : Nat} {e : TypeId} {g cap : Nat} {xs : List Value} (h : w.ownsRow base e 1 (.slice (some ⟨g, 0, none⟩) n cap) n xs) {j : Nat} {u : Value} (hu : xs[j]? = some u) : w.cell? ⟨g, j, none⟩ = some u ∧ w.frozen? ⟨g, j, none⟩ = false := by
  have h1 := h.cells (g := g) rfl j u hu
  rw [Addr.add_mid, Nat.zero_add] at h1
  refine ⟨h1, ?_⟩
  rcases h.2 with ⟨hn, _⟩ | ⟨g', cap', cur, hv, h1, h2, _⟩
  · cases hn
  · cases hv
    simp [World.frozen?, h2]
/-- One cell of it is written. -/
theorem ownsRow_set {w : World} {base n : Nat} {e : TypeId} {g cap : Nat} {xs : List Value} (h : w.ownsRow base e 1 (.slice (some ⟨g, 0, none⟩) n cap) n xs) {j : Nat} (hj : j < n) (u : Value) :
    (w.setCell ⟨g, j, none⟩ u).ownsRow base e 1 (.slice (some ⟨g, 0, none⟩) n cap) n (xs.set j u) := by
  refine ⟨by rw [List.length_set]; exact h.1, ?_⟩
  rcases h.2 with ⟨hn, _⟩ | ⟨g', cap', cur, hv, h1, h2, h3, h4, h5, h6⟩
  · cases hn
  · cases hv
    refine .inr ⟨g, cap, cur.setIfInBounds j u, rfl, h1, (Blk.put (show Blk w g e cur from h2) j u), h3, h4, by simpa using h5, ?_⟩
    rw [Nat.mul_one] at h6 ⊢
    rw [← h6, Array.toList_setIfInBounds, List.take_set]
end Go.Proofs.YtlpbbjjibnbooaaGreatDoor

namespace Go.Proofs.YtlpbbjjibnbooaaGreatDoor
set_option linter.unusedVariables false
set_option linter.unusedSimpArgs false

structure DevD where
  med : List (List UInt8)
  cac : Nat → List (List UInt8)
  lost : Bool
  fuse : Int

def fullL (b : UInt8) : List UInt8 := List.replicate 64 b
theorem fullL_len (b : UInt8) : (fullL b).length = 64 := by simp [fullL]
def lastOr (l : List (List UInt8)) (s : List UInt8) : List UInt8 := l.getLast?.getD s
theorem lastOr_nil (s : List UInt8) : lastOr [] s = s := rfl
namespace DevD
def blank (n : Nat) (b : UInt8) : DevD := ⟨List.replicate n (fullL b), fun _ => [], false, -1⟩
def medAt (d : DevD) (k : Nat) : List UInt8 := d.med.getD k []
def now (d : DevD) (k : Nat) : List UInt8 := lastOr (d.cac k) (d.medAt k)
def mayE (d : DevD) (a : Int) : Int := if d.lost then 6 else if a < 0 ∨ (d.med.length : Int) ≤ a then 5 else 0
def rdS (d : DevD) (a : Int) : List UInt8 := if d.mayE a = 0 then d.now a.toNat else []
def burn (d : DevD) : DevD := { d with fuse := max (d.fuse - 1) (-1) }
def wrE (d : DevD) (a : Int) (s : List UInt8) : Int := if d.mayE a ≠ 0 then d.mayE a else if s.length ≠ 64 then 1 else if d.fuse = 0 then 6 else 0
def put (d : DevD) (k : Nat) (s : List UInt8) : DevD := { d with cac := fun j => if j = k then d.cac j ++ [s] else d.cac j }
def wr (d : DevD) (a : Int) (s : List UInt8) : DevD := if d.wrE a s = 0 then d.burn.put a.toNat s else d
def flE (d : DevD) : Int := if d.lost = true ∨ d.fuse = 0 then 6 else 0
def settled (d : DevD) : DevD := { d with med := d.med.mapIdx fun k s => lastOr (d.cac k) s, cac := fun _ => [] }
def fl (d : DevD) : DevD := if d.flE = 0 then d.burn.settled else d
def lose (d : DevD) : DevD := { d with lost := true, cac := fun _ => [] }
/-- How many sectors ahead of k have something in the cache. -/
def rank (d : DevD) (k : Nat) : Nat := ((List.range k).filter fun j => !(d.cac j).isEmpty).length
/-- Which version a number tells: 0: none. -/
def vers (x : Int) (n : Nat) : Nat := ((x.tmod (n + 1) + n + 1).tmod (n + 1)).toNat
def pick (keep : List Int) (i : Nat) (l : List (List UInt8)) (s : List UInt8) : List UInt8 :=
  match keep[i]? with
  | none => s
  | some x => if 0 < vers x l.length then l.getD (vers x l.length - 1) [] else s
def crashMed (d : DevD) (keep : List Int) (m : Nat) : List (List UInt8) := d.med.mapIdx fun k s => if (d.cac k).isEmpty = false ∧ d.rank k < m then pick keep (d.rank k) (d.cac k) s else s
def crash (d : DevD) (keep : List Int) : DevD := if d.lost then d else { d with med := d.crashMed keep d.med.length, cac := fun _ => [], fuse := -1 }
/-- Byte i of a text, changed. -/
def flip (s : List UInt8) (i : Nat) (b : UInt8) : List UInt8 := s.set i (s.getD i 0 ^^^ b)
def spot (place : Int) : Nat := ((place.tmod 64 + 64).tmod 64).toNat
def spoilOk (d : DevD) (a : Int) (b : UInt8) : Bool := decide (d.mayE a = 0) && (b != 0)
def spoiled (d : DevD) (k : Nat) (s : List UInt8) : DevD := if (d.cac k).isEmpty then { d with med := d.med.set k s } else { d with cac := fun j => if j = k then (d.cac j).set ((d.cac j).length - 1) s else d.cac j }
def spoil (d : DevD) (a place : Int) (b : UInt8) : DevD := if d.spoilOk a b then d.spoiled a.toNat (flip (d.now a.toNat) (spot place) b) else d

/-- What every device keeps. -/
structure Ok (d : DevD) : Prop where
  pos : 1 ≤ d.med.length
  few : d.med.length ≤ 4096
  med : ∀ s ∈ d.med, s.length = 64
  cac : ∀ k, ∀ s ∈ d.cac k, s.length = 64
  inn : ∀ k, d.med.length ≤ k → d.cac k = []
  f1 : -1 ≤ d.fuse
  f2 : d.fuse ≤ 9223372036854775807
theorem mayE_ok {d : DevD} {a : Int} (h : d.mayE a = 0) : 0 ≤ a ∧ a < d.med.length ∧ d.lost = false := by
  unfold mayE at h
  cases hl : d.lost <;> rw [hl] at h
  · simp only [Bool.false_eq_true, if_false] at h
    split at h
    · omega
    · exact ⟨by omega, by omega, rfl⟩
  · simp at h
end DevD
end Go.Proofs.YtlpbbjjibnbooaaGreatDoor

namespace Go.Proofs.YtlpbbjjibnbooaaGreatDoor
set_option linter.unusedVariables false
set_option linter.unusedSimpArgs false
open Go.RowKit

/-- A device's blocks: the struct's, the medium's, the cache's, a row for each key. -/
structure DevIn (w : World) (S : Nat → Prop) (bd : Nat) (d : DevD) (mb mcap cb : Nat) (g : Int → Option Value) : Prop where
  box : Blk w bd 98 #[.slice (some ⟨mb, 0, none⟩) d.med.length mcap, .map (some cb), .bool d.lost, .int .i64 d.fuse]
  med : w.ownsRow 0 9 1 (.slice (some ⟨mb, 0, none⟩) d.med.length mcap) d.med.length (d.med.map str)
  map : MapAt Tryz.prog 3 w cb d.med.length g
  keys : ∀ k, (g k).isSome = true → 0 ≤ k ∧ k < d.med.length
  none_ : ∀ k : Nat, g k = none → d.cac k = []
  rows : ∀ (k : Nat) v, g k = some v → d.cac k ≠ [] ∧ w.ownsRow 0 9 1 v (d.cac k).length ((d.cac k).map str)
  apart : ∀ k v, g k = some v → v.ownBlock ≠ some mb ∧ ∀ b, v.ownBlock = some b → S b
  apart2 : ∀ j k v u, g j = some v → g k = some u → v.ownBlock = u.ownBlock → j = k
  sd : S bd
  sm : S mb
  sc : S cb
  lt : ∀ i, S i → i < w.heap.size
def DevAt (w : World) (S : Nat → Prop) (bd : Nat) (d : DevD) : Prop := ∃ mb mcap cb g, DevIn w S bd d mb mcap cb g

section
variable {w w' : World} {S T : Nat → Prop} {bd mb mcap cb : Nat} {d : DevD} {g : Int → Option Value}
theorem DevIn.same (h : DevIn w S bd d mb mcap cb g) (hs : w.heap.size ≤ w'.heap.size) (hb : ∀ i, S i → w'.heap[i]? = w.heap[i]?) : DevIn w' S bd d mb mcap cb g :=
  ⟨(hb bd h.sd).trans h.box, ownsRow_same h.med (fun b e => by cases e; exact hb mb h.sm), h.map.same (hb cb h.sc), h.keys, h.none_, fun k v e => ⟨(h.rows k v e).1, ownsRow_same (h.rows k v e).2 (fun b eb => hb b ((h.apart _ v e).2 b eb))⟩,
    h.apart, h.apart2, h.sd, h.sm, h.sc, fun i hi => Nat.lt_of_lt_of_le (h.lt i hi) hs⟩
theorem DevIn.mono (h : DevIn w S bd d mb mcap cb g) (hT : ∀ i, S i → T i) (hl : ∀ i, T i → i < w.heap.size) : DevIn w T bd d mb mcap cb g :=
  ⟨h.box, h.med, h.map, h.keys, h.none_, h.rows, fun k v e => ⟨(h.apart k v e).1, fun b eb => hT b ((h.apart k v e).2 b eb)⟩, h.apart2, hT _ h.sd, hT _ h.sm, hT _ h.sc, hl⟩
theorem DevAt.lt (h : DevAt w S bd d) : bd < w.heap.size := by
  obtain ⟨mb, mcap, cb, g, h⟩ := h
  exact h.lt bd h.sd
theorem DevAt.lts (h : DevAt w S bd d) : ∀ i, S i → i < w.heap.size := by
  obtain ⟨mb, mcap, cb, g, h⟩ := h
  exact h.lt
theorem DevAt.only (h : DevAt w S bd d) (ho : Only T w w') (hd : ∀ i, S i → ¬ T i) : DevAt w' S bd d := by
  obtain ⟨mb, mcap, cb, g, h⟩ := h
  exact ⟨mb, mcap, cb, g, h.same ho.size (fun i hi => ho.block i (h.lt i hi) (hd i hi))⟩
theorem DevAt.below (h : DevAt w S bd d) (hb : Below w.heap.size w w') : DevAt w' S bd d := h.only (Only.of_below (S := fun _ => False) hb) (fun _ _ h => h)
theorem DevAt.drew (h : DevAt w S bd d) : DevAt w.drew S bd d := h.only (Only.refl (fun _ => False) _).drew (fun _ _ h => h)
theorem DevAt.drewN (h : DevAt w S bd d) (n : Nat) : DevAt (w.drewN n) S bd d := h.only ((Only.refl (fun _ => False) _).drewN n) (fun _ _ h => h)
theorem DevAt.alloc (h : DevAt w S bd d) (o : Obj) : DevAt (w.alloc o) S bd d := h.below ((Below.refl _ _).alloc (Nat.le_refl _) o)
theorem DevAt.mono (h : DevAt w S bd d) (hT : ∀ i, S i → T i) (hl : ∀ i, T i → i < w.heap.size) : DevAt w T bd d := by
  obtain ⟨mb, mcap, cb, g, h⟩ := h
  exact ⟨mb, mcap, cb, g, h.mono hT hl⟩
theorem DevAt.more {w0 : World} (h : DevAt w S bd d) (h0 : w0.heap.size ≤ w.heap.size) (hS : ∀ i, S i → i < w0.heap.size) : DevAt w (Go.Proofs.YtlpbbjjibnbooaaGreatDoor.more S w0 w) bd d := h.mono (fun _ hi => .inl hi) (fun i hi => by
  rcases hi with hi | hi
  · exact Nat.lt_of_lt_of_le (hS i hi) h0
  · exact hi.2)
/-- The cells that the walks read. -/
theorem DevIn.cells (h : DevIn w S bd d mb mcap cb g) : w.cell? ⟨bd, 0, none⟩ = some (.slice (some ⟨mb, 0, none⟩) d.med.length mcap) ∧ w.cell? ⟨bd, 1, none⟩ = some (.map (some cb)) ∧ w.cell? ⟨bd, 2, none⟩ = some (.bool d.lost) ∧ w.cell? ⟨bd, 3, none⟩ = some (.int .i64 d.fuse) :=
  ⟨h.box.at_ rfl, h.box.at_ rfl, h.box.at_ rfl, h.box.at_ rfl⟩
theorem DevIn.med_at (h : DevIn w S bd d mb mcap cb g) {k : Nat} (hk : k < d.med.length) : w.cell? ⟨mb, k, none⟩ = some (str (d.medAt k)) ∧ w.frozen? ⟨mb, k, none⟩ = false :=
  ownsRow_cell h.med (by rw [List.getElem?_map, List.getElem?_eq_getElem hk]; simp [DevD.medAt, List.getD_eq_getElem?_getD, List.getElem?_eq_getElem hk])
/-- The fuse is set. -/
theorem DevIn.set3 (h : DevIn w S bd d mb mcap cb g) (f : Int) : DevIn (w.setCell ⟨bd, 3, none⟩ (.int .i64 f)) S bd { d with fuse := f } mb mcap cb g := by
  have hne : ∀ i, i ≠ bd → (w.setCell ⟨bd, 3, none⟩ (.int .i64 f)).heap[i]? = w.heap[i]? := fun i hi => Below.heap_setCell w _ _ i hi
  have hmb : mb ≠ bd := by
    rintro rfl
    have h1 := h.box
    rcases h.med.2 with ⟨hn, _⟩ | ⟨g', cap, cur, hv, _, h2, _⟩
    · cases hn
    · cases hv
      unfold Blk at h1
      rw [h1] at h2
      injection h2 with h2; injection h2 with _ h2; exact absurd h2 (by decide)
  have hcb : cb ≠ bd := by
    rintro rfl
    have h1 := h.box
    obtain ⟨D, ⟨es, c, h2, _⟩, _⟩ := h.map
    unfold Blk at h1
    rw [h1] at h2; cases h2
  have hrow : ∀ k v, g k = some v → ∀ b, v.ownBlock = some b → b ≠ bd := by
    intro k v e b eb
    have hk := h.keys k (by rw [e]; rfl)
    obtain ⟨n, rfl⟩ := Int.eq_ofNat_of_zero_le hk.1
    rintro rfl
    have h1 := h.box
    rcases (h.rows n v e).2.2 with ⟨rfl, _⟩ | ⟨g', cap, cur, rfl, _, h2, _⟩
    · cases eb
    · cases eb
      unfold Blk at h1
      rw [h1] at h2
      injection h2 with h2; injection h2 with _ h2; exact absurd h2 (by decide)
  refine ⟨h.box.put 3 (.int .i64 f), ownsRow_same h.med (fun b e => by cases e; exact hne mb hmb), h.map.same (hne cb hcb), h.keys, h.none_, fun k v e => ⟨(h.rows k v e).1, ownsRow_same (h.rows k v e).2 (fun b eb => hne b (hrow _ v e b eb))⟩,
    h.apart, h.apart2, h.sd, h.sm, h.sc, fun i hi => by simpa [World.setCell] using h.lt i hi⟩
end

theorem zero_strs (w : World) : (zeroValue 95).run Tryz.prog w = .ok (.slice none 0 0) w := by kernel_rfl

theorem lost_any {w : World} {S : Nat → Prop} {bd : Nat} {d : DevD} (h : DevAt w S bd d) : Calls Tryz.prog 59 #[.pointer (some ⟨bd, 0, none⟩)] w fun e w' => e = .returned (.bool d.lost) ∧ w = w' := by
  obtain ⟨mb, mcap, cb, g, h⟩ := h
  obtain ⟨c0, c1, c2, c3⟩ := h.cells
  go_enter Tryz.func59, Tryz.ntmps59
  go_wp2_with fail
  go_ret
  exact ⟨rfl, rfl⟩
theorem secs_any {w : World} {S : Nat → Prop} {bd : Nat} {d : DevD} (h : DevAt w S bd d) : Calls Tryz.prog 86 #[.pointer (some ⟨bd, 0, none⟩)] w fun e w' => e = .returned (.int .i64 d.med.length) ∧ w = w' := by
  obtain ⟨mb, mcap, cb, g, h⟩ := h
  obtain ⟨c0, c1, c2, c3⟩ := h.cells
  go_enter Tryz.func86, Tryz.ntmps86
  go_wp2_with fail
  go_ret
  exact ⟨rfl, rfl⟩
theorem dmay_any {w : World} {S : Nat → Prop} {bd : Nat} {d : DevD} (h : DevAt w S bd d) (a : Int) (hl : d.med.length ≤ 4096) : Calls Tryz.prog 45 #[.pointer (some ⟨bd, 0, none⟩), .int .i64 a] w fun e w' => e = .returned (.int .i64 (d.mayE a)) ∧ w = w' := by
  have HE : Hid (d.mayE a = if d.lost then 6 else if a < 0 ∨ (d.med.length : Int) ≤ a then 5 else 0) := Lib.hid rfl
  have HLo := Lib.hid (fun W : Unit => lost_any h)
  obtain ⟨mb, mcap, cb, g, h⟩ := h
  obtain ⟨c0, c1, c2, c3⟩ := h.cells
  cases hlo : d.lost with
  | true =>
    rw [hlo] at HE HLo
    clear hlo c2
    go_enter Tryz.func45, Tryz.ntmps45
    go_wp2_with fail
    refine (HLo.out ()).mono ?_
    rintro e w1 ⟨rfl, rfl⟩
    go_wp2_with fail
    go_ret
    exact ⟨ret_int (by rw [HE.out]; rfl), rfl⟩
  | false =>
    rw [hlo] at HE HLo
    clear hlo c2
    by_cases h1 : a < 0
    · go_enter Tryz.func45, Tryz.ntmps45
      go_wp2_with fail
      refine (HLo.out ()).mono ?_
      rintro e w1 ⟨rfl, rfl⟩
      go_wp2_with fail
      go_ret
      exact ⟨ret_int (by rw [HE.out, if_neg (by simp), if_pos (by omega)]), rfl⟩
    · by_cases h2 : (d.med.length : Int) ≤ a
      · go_enter Tryz.func45, Tryz.ntmps45
        go_wp2_with fail
        refine (HLo.out ()).mono ?_
        rintro e w1 ⟨rfl, rfl⟩
        go_wp2_with fail
        go_ret
        exact ⟨ret_int (by rw [HE.out, if_neg (by simp), if_pos (by omega)]), rfl⟩
      · go_enter Tryz.func45, Tryz.ntmps45
        go_wp2_with fail
        refine (HLo.out ()).mono ?_
        rintro e w1 ⟨rfl, rfl⟩
        go_wp2_with fail
        go_ret
        exact ⟨ret_int (by rw [HE.out, if_neg (by simp), if_neg (by omega)]), rfl⟩
theorem burnt_yes {w : World} {S : Nat → Prop} {bd : Nat} {d : DevD} (h : DevAt w S bd d) (hf : d.fuse = 0) : Calls Tryz.prog 60 #[.pointer (some ⟨bd, 0, none⟩)] w fun e w' => e = .returned (.bool true) ∧ w = w' := by
  obtain ⟨mb, mcap, cb, g, h⟩ := h
  obtain ⟨c0, c1, c2, c3⟩ := h.cells
  rw [hf] at c3
  clear hf
  go_enter Tryz.func60, Tryz.ntmps60
  go_wp2_with fail
  go_ret
  exact ⟨rfl, rfl⟩
theorem burnt_no {w : World} {S : Nat → Prop} {bd : Nat} {d : DevD} (h : DevAt w S bd d) (hf : d.fuse ≠ 0) (f1 : -1 ≤ d.fuse) (f2 : d.fuse ≤ 9223372036854775807) :
    Calls Tryz.prog 60 #[.pointer (some ⟨bd, 0, none⟩)] w fun e w' => e = .returned (.bool false) ∧ DevAt w' S bd d.burn ∧ Only S w w' ∧ w'.heap.size = w.heap.size := by
  obtain ⟨mb, mcap, cb, g, h⟩ := h
  obtain ⟨c0, c1, c2, c3⟩ := h.cells
  have hz : w.frozen? ⟨bd, 3, none⟩ = false := h.box.fr 3
  have H := Lib.hid (h.set3 (max (d.fuse - 1) (-1)))
  have HO : Hid (Only S w (w.setCell ⟨bd, 3, none⟩ (.int .i64 (max (d.fuse - 1) (-1))))) := Lib.hid ((Only.refl S w).set (.inl h.sd) _)
  have hd : d.burn = { d with fuse := max (d.fuse - 1) (-1) } := rfl
  rw [hd]
  clear hd
  generalize d.fuse = f at *
  by_cases hm : f - 1 < -1
  · have hmx : max (f - 1) (-1) = -1 := by omega
    rw [hmx] at H HO ⊢
    have HF := Lib.hid hf
    obtain rfl : f = -1 := by omega
    clear hmx hm hf f1 f2
    go_enter Tryz.func60, Tryz.ntmps60
    go_wp2_with fail
    go_ret
    exact ⟨rfl, ⟨mb, mcap, cb, g, H.out⟩, HO.out, by simp [World.setCell]⟩
  · have hmx : max (f - 1) (-1) = f - 1 := by omega
    rw [hmx] at H HO ⊢
    have hne : (f == 0) = false := by simpa using hf
    have hdc : decide (f - 1 < -1) = false := by simpa using hm
    have HMX := Lib.hid hmx
    clear hmx
    go_enter Tryz.func60, Tryz.ntmps60
    go_wp2_with fail
    go_ret
    try rw [HMX.out]
    exact ⟨rfl, ⟨mb, mcap, cb, g, H.out⟩, HO.out, by simp [World.setCell]⟩

theorem now_any {w : World} {S : Nat → Prop} {bd : Nat} {d : DevD} (h : DevAt w S bd d) (k : Nat) (hk : k < d.med.length) (hl : d.med.length ≤ 4096) :
    Calls Tryz.prog 46 #[.pointer (some ⟨bd, 0, none⟩), .int .i64 k] w fun e w' => e = .returned (str (d.now k)) ∧ w = w' := by
  obtain ⟨mb, mcap, cb, g, h⟩ := h
  obtain ⟨c0, c1, c2, c3⟩ := h.cells
  have hlk := h.map.look (k := k) (t := 96) Tryz.underlying3 Tryz.underlying96 (zero_strs w) (wfz_in (by omega) (by omega))
  have HN : Hid (d.now k = lastOr (d.cac k) (d.medAt k)) := Lib.hid rfl
  obtain ⟨cm, _⟩ := h.med_at hk
  cases hg : g k with
  | none =>
    have HC := Lib.hid (h.none_ k hg)
    rw [hg] at hlk
    simp only [Option.getD_none] at hlk
    clear hg
    go_enter Tryz.func46, Tryz.ntmps46
    go_wp2_with fail
    go_ret
    exact ⟨ret_str (by rw [HN.out, HC.out]; rfl), rfl⟩
  | some v =>
    obtain ⟨hc, hr⟩ := h.rows k v hg
    rw [hg] at hlk
    simp only [Option.getD_some] at hlk
    have hpos : 0 < (d.cac k).length := List.length_pos_iff.2 hc
    rcases hr.2 with ⟨_, h0⟩ | ⟨b, cap, cur, rfl, _, hb, hle, hcm, _⟩
    · omega
    have hlast : d.now k = (d.cac k)[(d.cac k).length - 1] := by
      rw [HN.out, lastOr, List.getLast?_eq_getElem?, List.getElem?_eq_getElem (by omega)]; rfl
    obtain ⟨cl, _⟩ := ownsRow_cell hr (j := (d.cac k).length - 1) (u := str (d.now k)) (by rw [List.getElem?_map, List.getElem?_eq_getElem (by omega), hlast]; rfl)
    have hm : (d.cac k).length ≤ 9223372036854775807 := by unfold maxLen at hcm; omega
    clear hg hc hr HN hlast
    generalize (d.cac k).length = n at *
    obtain ⟨m, rfl⟩ : ∃ m, n = m + 1 := ⟨n - 1, by omega⟩
    rw [Nat.add_sub_cancel] at cl
    generalize d.now k = s at *
    go_enter Tryz.func46, Tryz.ntmps46
    go_wp2_with fail
    go_ret
    exact ⟨rfl, rfl⟩

theorem read_any {w : World} {S : Nat → Prop} {bd : Nat} {d : DevD} (h : DevAt w S bd d) (a : Int) (hl : d.med.length ≤ 4096) :
    Calls Tryz.prog 58 #[.pointer (some ⟨bd, 0, none⟩), .int .i64 a] w fun e w' => e = .returned (.tuple #[str (d.rdS a), .int .i64 (d.mayE a)]) ∧ w = w' := by
  have HM := Lib.hid (dmay_any h a hl)
  have HE : Hid (d.rdS a = if d.mayE a = 0 then d.now a.toNat else []) := Lib.hid rfl
  by_cases h0 : d.mayE a = 0
  · have hr := DevD.mayE_ok h0
    obtain ⟨k, rfl⟩ := Int.eq_ofNat_of_zero_le hr.1
    have HN := Lib.hid (now_any h k (by omega) hl)
    rw [h0] at HM ⊢
    have he : d.rdS k = d.now k := by rw [HE.out, if_pos h0]; rfl
    rw [he]
    clear h0 hr he
    go_enter Tryz.func58, Tryz.ntmps58
    go_wp2_with fail
    refine HM.out.mono ?_
    rintro e w1 ⟨rfl, rfl⟩
    go_wp2_with fail
    refine HN.out.mono ?_
    rintro e w1 ⟨rfl, rfl⟩
    go_wp2_with fail
    go_ret2
    exact ⟨rfl, rfl⟩
  · have hne : (d.mayE a != 0) = true := by simpa using h0
    have he : d.rdS a = [] := by rw [HE.out, if_neg h0]
    rw [he]
    clear h0 he
    generalize d.mayE a = E at *
    go_enter Tryz.func58, Tryz.ntmps58
    go_wp2_with fail
    refine HM.out.mono ?_
    rintro e w1 ⟨rfl, rfl⟩
    go_wp2_with fail
    go_ret2
    exact ⟨rfl, rfl⟩
end Go.Proofs.YtlpbbjjibnbooaaGreatDoor

namespace Go.Proofs.YtlpbbjjibnbooaaGreatDoor
set_option linter.unusedVariables false
set_option linter.unusedSimpArgs false
open Go.RowKit

theorem Tryz.infoS : (Tryz.prog.info? 9).map (fun i => (i.zero, i.size, i.bytes)) = some (some (.string ⟨#[]⟩), 1, 16) := by kernel_rfl
theorem one_new (w : World) (u : Value) (t : TypeId) : ∀ j v, [u][j]? = some v → (w.alloc (.cells #[u] t)).cell? ((⟨w.heap.size, 0, none⟩ : Addr).add j) = some v := by
  intro j v hj
  match j, hj with
  | 0, hj => simp at hj; subst hj; simp [Addr.add]

theorem conv_b (b : UInt8) (W : World) : (convert 43 9 (.slice (some ⟨W.heap.size, 0, none⟩) 1 1)).run Tryz.prog (W.alloc (.cells #[.int .u8 b.toNat] 5)) =
    .ok (str [b]) (W.alloc (.cells #[.int .u8 b.toNat] 5)) := by
  refine run_convert_bytes_back (P := Tryz.prog) (W.alloc (.cells #[.int .u8 b.toNat] 5)) 43 9 5 ⟨W.heap.size, 0, none⟩ 1 [b] Tryz.underlying43 Tryz.underlying5 Tryz.underlying9 (fun j hj => ?_)
  have hj0 : j = 0 := by simpa using hj
  subst hj0
  exact one_new W (.int .u8 b.toNat) 5 0 _ rfl
theorem repeat_full (b : UInt8) : ∀ n, Lib.repeatL [b] n = List.replicate n b
  | 0 => rfl
  | n + 1 => by rw [Lib.repeatL, repeat_full b n]; rfl
theorem rep_any (b : UInt8) (w : World) : Calls Tryz.prog 66 #[str [b], .int .i64 64] w fun e w' => e = .returned (str (fullL b)) ∧ Below w.heap.size w w' :=
  (Tryz.strings_Repeat ⟨#[b]⟩ 64 w (by omega) (by show 1 * 64 ≤ _; omega)).mono fun e w' h => ⟨by rw [h.1]; show Ending.returned (.string ⟨(Lib.repeatL [b] 64).toArray⟩) = _; rw [repeat_full]; rfl, h.2⟩

theorem blank_any (n : Nat) (b : UInt8) (w : World) (hn : n ≤ 4096) : Calls Tryz.prog 116 #[.int .i64 n, .int .u8 b.toNat] w fun e w' =>
    ∃ v, e = .returned v ∧ w'.ownsRow w.heap.size 9 1 v n (List.replicate n (str (fullL b))) ∧ Below w.heap.size w w' := by
  obtain ⟨i0, hi, hz0, hz1, hz2⟩ := info_parts Tryz.infoS
  go_enter Tryz.func116, Tryz.ntmps116
  go_wp2
  go_loopw [5, 7] (fun v t wr => ∃ k : Nat, k ≤ n ∧ t = .int .i64 k ∧ wr.ownsRow w.heap.size 9 1 v k (List.replicate k (str (fullL b))) ∧ Below w.heap.size w wr) (fun _ t _ => n - (RowKit.intOf t).toNat)
  case atStart => exact ⟨0, Nat.zero_le _, rfl, World.ownsRow_nil _ _ _ _, Below.refl _ _⟩
  case round =>
    obtain ⟨k, hk, rfl, hown, hb⟩ := hrel
    by_cases hlt : k < n
    · have hcv := conv_b b wr
      go_wp2_with fail
      refine (rep_any b _).mono ?_
      rintro e w2 ⟨rfl, hb2⟩
      have hd1 : Below w.heap.size w (wr.alloc (.cells #[.int .u8 b.toNat] 5)) := keep_alloc hb _
      have hd2 := keep_below hb2 hd1
      have hown1 := (hown.alloc (.cells #[.int .u8 b.toNat] 5))
      have hown2 := ownsRow_same hown1 (fun b' e => hb2.block b' (hown1.lt b' e).2)
      have hs2 : w.heap.size ≤ w2.heap.size := hd2.size
      clear hcv hown1 hown hd1
      go_wp2_with (at_builtin; refine wpList_append_own _ rfl _ _ 95 rfl w.heap.size 9 i0 _ 1 16 Tryz.underlying95 hi hz0 hz1 hz2 rfl (by decide) _ _ _ rfl (hown2.alloc _) ⟨w2.heap.size, 0, none⟩ 1 1 [str (fullL b)] rfl rfl ?c1 ?c2 (by unfold maxLen; omega) (by omega) ?c5 ?_)
      case c1 => exact one_new _ _ _
      case c2 => intro u hu; simp at hu; subst hu; rfl
      case c5 => simp; omega
      intro v' w3 hown' hgrow _
      have hown3 : w3.ownsRow w.heap.size 9 1 v' (k + 1) (List.replicate (k + 1) (str (fullL b))) := by
        rw [List.replicate_succ']
        exact hown'
      have hb3 : Below w.heap.size w w3 := (hd2.alloc hd2.size _).grown hgrow (by simp; omega) (fun k hk => (hown2.lt k hk).1)
      clear hown2 hown' hgrow
      go_wp2_with fail
      go_roundw
      case rel => exact ⟨k + 1, by omega, by go_num, hown3, hb3⟩
      case measure => simp [RowKit.intOf]; omega
    · obtain rfl : k = n := by omega
      go_wp2_with fail
      go_ret
      exact ⟨_, rfl, hown, hb⟩

/-- A new device, laid. -/
theorem devIn_new {w : World} {S : Nat → Prop} {n : Nat} {b : UInt8} {mb mcap cb bd : Nat} (h1 : 1 ≤ n)
    (hbox : Blk w bd 98 #[.slice (some ⟨mb, 0, none⟩) n mcap, .map (some cb), .bool false, .int .i64 (-1)])
    (hm : w.ownsRow 0 9 1 (.slice (some ⟨mb, 0, none⟩) n mcap) n (List.replicate n (str (fullL b)))) (hc : MapAt Tryz.prog 3 w cb 0 (fun _ => none)) (s1 : S bd) (s2 : S mb) (s3 : S cb) (hl : ∀ i, S i → i < w.heap.size) :
    DevAt w S bd (DevD.blank n b) :=
  ⟨mb, mcap, cb, fun _ => none, by simpa [DevD.blank] using hbox, by simpa [DevD.blank] using hm, (hc.mono (Nat.zero_le _)), fun k h => (by simp at h), fun k _ => rfl, fun k v e => (by simp at e), fun k v e => (by simp at e), fun j k v u e => (by simp at e), s1, s2, s3, hl⟩
theorem blank_ok {n : Nat} {b : UInt8} (h1 : 1 ≤ n) (h2 : n ≤ 4096) : (DevD.blank n b).Ok :=
  ⟨by simpa [DevD.blank] using h1, by simpa [DevD.blank] using h2, fun s hs => by simp [DevD.blank] at hs; rw [hs.2]; exact fullL_len b, fun k s hs => by simp [DevD.blank] at hs, fun k _ => rfl, by simp [DevD.blank], by simp [DevD.blank]⟩

theorem dnew_any (n : Nat) (w : World) (h1 : 1 ≤ n) (h2 : n ≤ 4096) : Calls Tryz.prog 82 #[.int .i64 n] w fun e w' =>
    ∃ bd, e = .returned (.tuple #[.pointer (some ⟨bd, 0, none⟩), .int .i64 0]) ∧ DevAt w' (fun i => w.heap.size ≤ i ∧ i < w'.heap.size) bd (DevD.blank n 0) ∧ Below w.heap.size w w' := by
  have HB := Lib.hid fun W => blank_any n 0 W h2
  have hmm := @run_makeMap Tryz.prog
  go_enter Tryz.func82, Tryz.ntmps82
  go_wp2_with fail
  refine (HB.out _).mono ?_
  rintro e w1 ⟨v, rfl, hr, hb1⟩
  obtain ⟨mb, cap, rfl, _, _⟩ := hr.form (by omega)
  have hmb := hr.lt mb rfl
  have HR := Lib.hid hr
  clear hr
  go_wp2_with fail
  go_ret2
  have hs := hb1.size
  refine ⟨_, rfl, devIn_new h1 (by have := Blk.new2 w1 (.map #[] 0) 98 #[.slice (some ⟨mb, 0, none⟩) n cap, .map (some w1.heap.size), .bool false, .int .i64 (-1)]; exact this)
    (ownsRow_zero ((HR.out.alloc _).alloc _)) ((mapAt_made w1 Tryz.prog 3).same (Below.heap_alloc _ _ _ (by simp))) ⟨by omega, by simp⟩ ⟨hmb.1, by simp; omega⟩ ⟨hs, by simp; omega⟩ (fun i hi => hi.2), keep_alloc (keep_alloc hb1 _) _⟩
end Go.Proofs.YtlpbbjjibnbooaaGreatDoor
