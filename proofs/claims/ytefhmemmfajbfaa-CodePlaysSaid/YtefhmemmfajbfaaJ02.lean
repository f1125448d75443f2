/-
  Maps keyed by ints, their elements taken as they stand: a map in memory is a function from ints to values. No program stands here.
  Worlds in which, of the blocks that were there, some alone have turned. No program stands here.
  Texts as values. No program stands here.
  Slices, and what their cells hold; predicates over them. No program stands here but slices.ContainsFunc over texts.
  Rows of bytes: made, and turned into texts.
  Parities, as plain words. No program stands here.
-/
import Derived.Test.YtefhmemmfajbfaaJ01
import Derived.Maps.OwnSet
import Derived.Maps.RangeWalk
import Derived.Lib.SlKeysI
import Derived.Test.YtefhmemmfajbfaaRows
import Derived.Maps.AppendAt
namespace Go.Proofs.Ytefhmemmfajbfaa
set_option linter.unusedVariables false
set_option linter.unusedSimpArgs false
open Go.RowKit Go.Maps Go.ChangeMaps
open Go.MapKept (stamped_empty)

/-- An element reads as itself. -/
def RV (v : Value) : Option (DataW Value × List MemPlace) := some (.held v, [])
def wfz (k : Int) : Prop := (Lit.int .i64 k).wf = true
theorem wfz_in {k : Int} (h1 : -9223372036854775808 ≤ k) (h2 : k ≤ 9223372036854775807) : wfz k := by
  unfold wfz; exact WalkArith.wf_i64 ⟨h1, h2⟩
/-- What a datum holds at each int. -/
def MapFn (D : DataW Value) (f : Int → Option Value) : Prop :=
  (∀ k, ¬ wfz k → f k = none) ∧ ∀ k, wfz k → match f k with | none => has D (.int .i64 k) = false | some v => ∀ z, D.atKey (.int .i64 k) z = .held v
/-- Block b is a map of at most n entries that holds f. -/
def MapAt (P : Program) (kt : TypeId) (w : World) (b n : Nat) (f : Int → Option Value) : Prop := ∃ D : DataW Value, w.ownsMap P kt RV b n D ∧ MapFn D f

theorem MapFn.has_eq {D : DataW Value} {f : Int → Option Value} (h : MapFn D f) {k : Int} (hk : wfz k) : has D (.int .i64 k) = (f k).isSome := by
  have := h.2 k hk
  cases hf : f k with
  | none => rw [hf] at this; exact this
  | some v => rw [hf] at this; exact has_true_of_atKey this
theorem MapFn.at_ {D : DataW Value} {f : Int → Option Value} (h : MapFn D f) {k : Int} (hk : wfz k) (z : Value) : D.atKey (.int .i64 k) (.held z) = .held ((f k).getD z) := by
  have := h.2 k hk
  cases hf : f k with
  | none => rw [hf] at this; exact atKey_of_not_has this _
  | some v => rw [hf] at this; exact this _
theorem keyLit (k : Int) : WideAt.IsKeyLit (.int .i64 k) := trivial
theorem MapFn.put {D : DataW Value} {f : Int → Option Value} (h : MapFn D f) (hD : IsMap D) {k : Int} (hk : wfz k) (v : Value) : MapFn (D.put (.int .i64 k) (.held v)) (fun j => if j = k then some v else f j) := by
  refine ⟨fun j hj => by
    show (if j = k then some v else f j) = none
    rw [if_neg (by rintro rfl; exact hj hk)]; exact h.1 j hj, fun j hj => ?_⟩
  by_cases e : j = k
  · subst e
    simp only [if_true]
    exact fun z => atKey_put_same hD (keyLit _) _ _
  · have hne : (Lit.int .i64 j) ≠ .int .i64 k := by simpa using e
    simp only [if_neg e]
    have := h.2 j hj
    cases hf : f j with
    | none => rw [hf] at this; simp only; rw [has_put_other hne]; exact this
    | some u => rw [hf] at this; simp only; intro z; rw [atKey_put_other hne]; exact this z
theorem mapFn_empty : MapFn (.map [] : DataW Value) (fun _ => none) := ⟨fun _ _ => rfl, fun _ _ => rfl⟩

section
variable {P : Program} {kt : TypeId} {w w' : World} {b n : Nat} {f : Int → Option Value}
theorem MapAt.lt (h : MapAt P kt w b n f) : b < w.heap.size := h.choose_spec.1.lt
theorem MapAt.mono (h : MapAt P kt w b n f) {m : Nat} (hm : n ≤ m) : MapAt P kt w b m f := by
  obtain ⟨D, ho, hf⟩ := h
  exact ⟨D, ho.mono hm, hf⟩
theorem MapAt.same (h : MapAt P kt w b n f) (hb : w'.heap[b]? = w.heap[b]?) : MapAt P kt w' b n f := by
  obtain ⟨D, ⟨es, c, e1, r⟩, hf⟩ := h
  exact ⟨D, ⟨es, c, hb.trans e1, r⟩, hf⟩
theorem mapAt_made (w : World) (P : Program) (kt : TypeId) : MapAt P kt (w.alloc (.map #[] 0)) w.heap.size 0 (fun _ => none) := ⟨_, World.ownsMap_made w P kt RV, mapFn_empty⟩
theorem MapAt.fn_eq (h : MapAt P kt w b n f) {g : Int → Option Value} (e : f = g) : MapAt P kt w b n g := e ▸ h

/-- 'm[k]'. -/
theorem MapAt.look {t et : TypeId} {z : Value} (h : MapAt P kt w b n f) (hk : P.underlying kt = some (.int .i64)) (ht : P.underlying t = some (.map kt et)) (hz : (zeroValue et).run P w = .ok z w) {k : Int} (hw : wfz k) :
    (Instr.lookup t (.map (some b)) (.int .i64 k) false).run P w = .ok ((f k).getD z) w := by
  obtain ⟨D, ho, hf⟩ := h
  obtain ⟨v, ps, hr, hv⟩ := ho.lookup (int_keyed hk) ht hz (zd := .held z) (zp := []) rfl (keyOf_int_mk hk hw)
  rw [hf.at_ hw] at hv
  have : v = (f k).getD z := by simpa [RV] using congrArg (fun x => x.map Prod.fst) hv
  rw [← this]; exact hr
/-- 'v, ok := m[k]'. -/
theorem MapAt.look_ok {t et : TypeId} {z : Value} (h : MapAt P kt w b n f) (hk : P.underlying kt = some (.int .i64)) (ht : P.underlying t = some (.map kt et)) (hz : (zeroValue et).run P w = .ok z w) {k : Int} (hw : wfz k) :
    (Instr.lookup t (.map (some b)) (.int .i64 k) true).run P w = .ok (.tuple #[(f k).getD z, .bool (f k).isSome]) w := by
  obtain ⟨D, ho, hf⟩ := h
  obtain ⟨v, ps, hr, hv⟩ := ho.look_ok (int_keyed hk) ht hz (zd := .held z) (zp := []) rfl (keyOf_int_mk hk hw)
  rw [hf.at_ hw] at hv
  have : v = (f k).getD z := by simpa [RV] using congrArg (fun x => x.map Prod.fst) hv
  rw [← this, ← hf.has_eq hw]; exact hr
/-- 'm[k] = v'. -/
theorem MapAt.store {t et : TypeId} (h : MapAt P kt w b n f) (hk : P.underlying kt = some (.int .i64)) (ht : P.underlying t = some (.map kt et)) (hn : n < maxLen) {k : Int} (hw : wfz k) (v : Value) :
    ∃ w', (Instr.mapUpdate t (.map (some b)) (.int .i64 k) v).run P w = .ok () w' ∧ MapAt P kt w' b (n + 1) (fun j => if j = k then some v else f j) ∧ w.grownBy w' (some b) ∧ w'.heap.size = w.heap.size := by
  obtain ⟨D, ho, hf⟩ := h
  obtain ⟨w', hr, ho', ht'⟩ := ho.store (int_keyed hk) ht hn (keyOf_int_mk hk hw) (d := .held v) (ps := []) (val := v) rfl
  refine ⟨w', hr, ⟨_, ho', hf.put ho.isMap hw v⟩, ht'.grown, ?_⟩
  obtain ⟨_, _, _, _, _, rfl⟩ := ht'
  simp [setBlock]
/-- 'clear(m)'. -/
theorem MapAt.clear {t et ty : TypeId} (h : MapAt P kt w b n f) (ht : P.underlying t = some (.map kt et)) :
    ∃ w', (Builtin.clear_ #[t] ty #[.map (some b)]).run P w = .ok (.tuple #[]) w' ∧ MapAt P kt w' b 0 (fun _ => none) ∧ w.grownBy w' (some b) ∧ w'.heap.size = w.heap.size := by
  obtain ⟨D, ⟨es, c, hb, F, hs, hD⟩, hf⟩ := h
  refine ⟨setBlock w b (.map #[] c), ?_, ⟨.map [], ⟨#[], c, heap_setBlock_same hb _, ⟨by simp, stamped_empty c, by simp⟩, Nat.le_refl _, rfl⟩, mapFn_empty⟩, ⟨rfl, rfl, rfl, by simp [setBlock], fun i _ hi => heap_setBlock_other hb _ (fun e => hi (by rw [e]))⟩, by simp [setBlock]⟩
  simp [Builtin.clear_, run_underlying ht, MapKept.run_getObj_map hb, MapKept.run_setObj_map _ hb, Result.andThen, setBlock]
/-- 'len(m)'. -/
theorem MapAt.len {t et ty : TypeId} (h : MapAt P kt w b n f) (ht : P.underlying t = some (.map kt et)) : ∃ s : Nat, s ≤ n ∧ (Builtin.len_ #[t] ty #[.map (some b)]).run P w = .ok (.int .i64 s) w := by
  obtain ⟨D, ho, hf⟩ := h
  exact ⟨_, ho.size_le, ho.len ht ty⟩

/-- The keys, rising. -/
def RisingKeys (f : Int → Option Value) (l : List Int) : Prop := l.Pairwise (· < ·) ∧ ∀ x, x ∈ l ↔ (f x).isSome = true
theorem nodup_le : ∀ (N : Nat) (l : List Int), l.Nodup → (∀ x ∈ l, 0 ≤ x ∧ x < N) → l.length ≤ N
  | 0, [], _, _ => Nat.le_refl _
  | 0, x :: r, _, h => by have := h x (by simp); omega
  | N + 1, l, hd, h => by
    have h1 := nodup_le N (l.erase (N : Int)) (hd.erase _) (fun x hx => by
      have := h x (List.mem_of_mem_erase hx)
      have hne : x ≠ (N : Int) := fun e => by rw [e] at hx; exact (hd.not_mem_erase) hx
      omega)
    have h2 := List.length_erase (l := l) (a := (N : Int))
    split at h2 <;> omega

theorem mapAt_keys {D : DataW Value} (ho : w.ownsMap P kt RV b n D) (hk : P.underlying kt = some (.int .i64)) (hf : MapFn D f) : (intKeys D).Nodup ∧ (∀ x, x ∈ intKeys D ↔ (f x).isSome = true) ∧ size D = (intKeys D).length := by
  have hwf := intKeys_wf ho hk
  obtain ⟨es, rfl, hpw, _⟩ := ho.entries (int_keyed hk)
  obtain ⟨es', hD', hko⟩ := ho.keysOf
  obtain rfl : es = es' := by simpa using hD'
  have hko : ∀ p ∈ es, ∃ x, p.1 = .int .i64 x := fun p hp => by obtain ⟨v, hv⟩ := hko p hp; obtain ⟨x, _, hx, _⟩ := Maps.keyOf_i64 hk hv; exact ⟨x, hx⟩
  refine ⟨?_, fun x => ?_, by simp [size, intKeys]⟩
  · show (es.map fun p => Go.intOf p.1).Nodup
    refine List.pairwise_map.2 (hpw.imp_of_mem fun {p q} hp' hq' hne e => hne ?_)
    obtain ⟨a, ha⟩ := hko p hp'
    obtain ⟨b, hb⟩ := hko q hq'
    rw [ha, hb] at e ⊢
    exact congrArg _ e
  · have hm : x ∈ intKeys (.map es : DataW Value) ↔ has (.map es : DataW Value) (.int .i64 x) = true := by
      rw [has_eq, List.any_eq_true]
      show x ∈ es.map (fun p => Go.intOf p.1) ↔ _
      rw [List.mem_map]
      constructor
      · rintro ⟨p, hp', rfl⟩
        obtain ⟨a, ha⟩ := hko p hp'
        exact ⟨p, hp', by rw [ha]; simp [Lit.sameKey, Go.intOf]⟩
      · rintro ⟨p, hp', hs⟩
        obtain ⟨a, ha⟩ := hko p hp'
        rw [ha] at hs
        exact ⟨p, hp', by rw [ha]; simpa [Lit.sameKey, Go.intOf] using hs⟩
    rw [hm]
    by_cases hw : wfz x
    · rw [hf.has_eq hw]
    · rw [hf.1 x hw]
      constructor
      · intro h; exact absurd (hwf x (hm.2 h)) hw
      · intro h; cases h
/-- The bound anew, of keys from 0 to N. -/
theorem MapAt.few (h : MapAt P kt w b n f) (hk : P.underlying kt = some (.int .i64)) {N : Nat} (hN : ∀ x, (f x).isSome = true → 0 ≤ x ∧ x < N) : MapAt P kt w b N f := by
  obtain ⟨D, ho, hf⟩ := h
  obtain ⟨h1, h2, h3⟩ := mapAt_keys ho hk hf
  have hl : size D ≤ N := by rw [h3]; exact nodup_le N _ h1 (fun x hx => hN x ((h2 x).1 hx))
  refine ⟨D, ?_, hf⟩
  obtain ⟨es, c, hb, F, hs, rfl⟩ := ho
  exact ⟨es, c, hb, F, by simpa [size, length_sorted] using hl, rfl⟩
theorem MapAt.sorted {D : DataW Value} (ho : w.ownsMap P kt RV b n D) (hk : P.underlying kt = some (.int .i64)) (hf : MapFn D f) {ss : List Int} (hp : ss.Perm (intKeys D)) : RisingKeys f (ss.mergeSort fun x y => decide (x ≤ y)) := by
  obtain ⟨h1, h2, _⟩ := mapAt_keys ho hk hf
  have tr : ∀ a b c : Int, decide (a ≤ b) = true → decide (b ≤ c) = true → decide (a ≤ c) = true := fun a b c h1 h2 => by simp only [decide_eq_true_eq] at *; omega
  have tot : ∀ a b : Int, (decide (a ≤ b) || decide (b ≤ a)) = true := fun a b => by simp only [Bool.or_eq_true, decide_eq_true_eq]; omega
  have hpm := List.mergeSort_perm ss (fun x y => decide (x ≤ y))
  have hnd : (ss.mergeSort fun x y => decide (x ≤ y)).Nodup := (hpm.trans hp).symm.nodup h1
  refine ⟨?_, fun x => by rw [hpm.mem_iff, hp.mem_iff, h2]⟩
  have hs := List.pairwise_mergeSort tr tot ss
  refine (hs.and hnd).imp fun {a b} h => ?_
  obtain ⟨h1, h2⟩ := h
  simp only [decide_eq_true_eq] at h1
  omega

/-- 'for k, v := range m' under way. -/
def RanAt (P : Program) (kt : TypeId) (w : World) (b r n : Nat) (f : Int → Option Value) (left : Int → Bool) (cnt : Nat) : Prop :=
  ∃ (D : DataW Value) (lf : Lit → Bool), w.ranges P kt RV b r n D lf cnt ∧ MapFn D f ∧ ∀ k, wfz k → left k = lf (.int .i64 k)
theorem RanAt.own {r : Nat} {left : Int → Bool} {cnt : Nat} (h : RanAt P kt w b r n f left cnt) : MapAt P kt w b n f := by
  obtain ⟨D, lf, hr, hf, _⟩ := h
  exact ⟨D, hr.owns, hf⟩
theorem RanAt.left_eq {r : Nat} {left : Int → Bool} {cnt : Nat} (h : RanAt P kt w b r n f left cnt) : w.rangeLeft b r = cnt := by
  obtain ⟨D, lf, hr, hf, _⟩ := h
  exact hr.left_eq
theorem RanAt.kept {r : Nat} {left : Int → Bool} {cnt : Nat} (h : RanAt P kt w b r n f left cnt) (hb : w'.heap[b]? = w.heap[b]?) (hr : w'.heap[r]? = w.heap[r]?) : RanAt P kt w' b r n f left cnt := by
  obtain ⟨D, lf, ⟨es, c, since, seen, c0, e1, e2, e3, e4, e5, rest⟩, hf⟩ := h
  exact ⟨D, lf, ⟨es, c, since, seen, c0, hb.trans e1, e2, e3, e4, hr.trans e5, rest⟩, hf⟩
theorem RanAt.lt {r : Nat} {left : Int → Bool} {cnt : Nat} (h : RanAt P kt w b r n f left cnt) : b < w.heap.size ∧ r < w.heap.size := by
  obtain ⟨D, lf, hr, hf, _⟩ := h
  exact ⟨hr.owns.lt, hr.lt⟩
end

/-! ### at the operations, for the walk -/
section
variable {P : Program} {w : World} {ops : Array Oper} {rest : List Oper} {o : Oper} {a : Act} {Q : Exit → Act → World → Prop}
theorem wpList_map_store (hg : o.guard = none) (m x v : Operand) (t : TypeId) (hop : o.op = Op.mapUpdate t m x v) (kt et : TypeId) (hk : P.underlying kt = some (.int .i64)) (ht : P.underlying t = some (.map kt et))
    (b n : Nat) (f : Int → Option Value) (hm : a.eval m = .map (some b)) (hown : MapAt P kt w b n f) (hn : n < maxLen) (k : Int) (u : Value) (hx : a.eval x = .int .i64 k) (hv : a.eval v = u) (hw : wfz k)
    (hK : ∀ w', MapAt P kt w' b (n + 1) (fun j => if j = k then some u else f j) → w.grownBy w' (some b) → w'.heap.size = w.heap.size → wpList P ops Q rest (a.put o.dst undef) w') :
    wpList P ops Q (o :: rest) a w := by
  refine wpList_plain hg fun K' hK' => ?_
  obtain ⟨w', hrun, r1, r2, r3⟩ := hown.store hk ht hn hw u
  unfold Oper.wp
  simp [execOp, hop, hm, hx, hv, hrun, Result.andThen]
  exact hK' _ _ (hK w' r1 r2 r3)
theorem wpList_map_clear (hg : o.guard = none) (m : Operand) (t : TypeId) (hop : o.op = Op.call { callee := Callee.builtin Builtin.clear, args := #[m], argTypes := #[t] }) (kt et : TypeId) (ht : P.underlying t = some (.map kt et))
    (b n : Nat) (f : Int → Option Value) (hm : a.eval m = .map (some b)) (hown : MapAt P kt w b n f)
    (hK : ∀ w', MapAt P kt w' b 0 (fun _ => none) → w.grownBy w' (some b) → w'.heap.size = w.heap.size → wpList P ops Q rest (a.put o.dst (.tuple #[])) w') :
    wpList P ops Q (o :: rest) a w := by
  refine wpList_plain hg fun K' hK' => ?_
  obtain ⟨w', hrun, r1, r2, r3⟩ := hown.clear (ty := o.type) ht
  unfold Oper.wp
  simp [execOp, hop, resolve, invoke, builtin, hm, hrun, Result.andThen]
  exact hK' _ _ (hK w' r1 r2 r3)
theorem wpList_map_range (hg : o.guard = none) (m : Operand) (t : TypeId) (hop : o.op = Op.range t m) (kt et : TypeId) (hk : P.underlying kt = some (.int .i64)) (ht : P.underlying t = some (.map kt et)) (b n : Nat) (f : Int → Option Value)
    (hm : a.eval m = .map (some b)) (hown : MapAt P kt w b n f)
    (hK : ∀ w' cnt, RanAt P kt w' b w.heap.size n f (fun k => (f k).isSome) cnt → w.grownBy w' none → w'.heap.size = w.heap.size + 1 → wpList P ops Q rest (a.put o.dst (.pointer (some ⟨w.heap.size, 0, none⟩))) w') :
    wpList P ops Q (o :: rest) a w := by
  refine wpList_plain hg fun K' hK' => ?_
  obtain ⟨D, ho, hf⟩ := hown
  obtain ⟨w', hrun, r1, r2, r3⟩ := ho.range (int_keyed hk) ht
  unfold Oper.wp
  simp [execOp, hop, hm, hrun, Result.andThen]
  exact hK' _ _ (hK w' _ ⟨D, _, r1, hf, fun k hw => (hf.has_eq hw).symm⟩ r2 r3)
theorem wpList_map_next (hg : o.guard = none) (it : Operand) (hop : o.op = Op.next it false) (kt : TypeId) (hk : P.underlying kt = some (.int .i64)) (b r n : Nat) (f : Int → Option Value) (left : Int → Bool) (cnt : Nat)
    (hit : a.eval it = .pointer (some ⟨r, 0, none⟩)) (h : RanAt P kt w b r n f left cnt)
    (hDone : (∀ k, wfz k → left k = false) → wpList P ops Q rest (a.put o.dst (.tuple #[.bool false])) w)
    (hMore : ∀ (x : Int) (v : Value) (w' : World) (cnt' : Nat), wfz x → left x = true → f x = some v → RanAt P kt w' b r n f (fun z => left z && z != x) cnt' → cnt' < cnt →
      w.grownBy w' (some r) → w'.heap.size = w.heap.size → (Instr.entry (.pointer (some ⟨r, 0, none⟩))).run P w' = .ok (.tuple #[.int .i64 x, v]) w' → wpList P ops Q rest (a.put o.dst (.tuple #[.bool true, .int .i64 x, v])) w') :
    wpList P ops Q (o :: rest) a w := by
  obtain ⟨D, lf, hr, hf, hl⟩ := h
  refine wpList_next_ranges w hg it hop kt (int_keyed hk) RV (Value.int .i64) id (fun key kl hkey => by obtain ⟨x, hx, _⟩ := Maps.keyOf_i64 hk hkey; exact ⟨x, hx⟩) (fun v _ _ => ⟨v, rfl⟩) b r n D lf cnt hit hr (fun _ hno => hDone (fun k hw => by rw [hl k hw, hno])) ?_
  intro x v kl y w' cnt' hkey hlk hv hat hrg hlt hgr hsz hen
  obtain ⟨x', ex, rfl, hw⟩ := Maps.keyOf_i64 hk hkey
  obtain rfl : x = x' := encZ_inj ex
  have hfx : f x = some v := by
    have h1 := hf.at_ hw (.bool true)
    have h2 : y = (.held v, []) := by simpa [RV] using hv.symm
    rw [hat, h2] at h1
    have h3 := hf.has_eq hw
    rw [has_true_of_atKey hat] at h3
    cases hfx : f x with
    | none => rw [hfx] at h3; cases h3
    | some u => rw [hfx] at h1; simpa using h1.symm
  refine hMore x v w' cnt' hw (by rw [hl x hw]; exact hlk) hfx ⟨D, _, hrg, hf, fun k hwk => ?_⟩ hlt hgr hsz hen
  show (left k && k != x) = _
  rw [hl k hwk]
  by_cases e : k = x
  · subst e; simp [Lit.sameKey]
  · simp [Lit.sameKey, e]
end
end Go.Proofs.Ytefhmemmfajbfaa

namespace Go.Proofs.Ytefhmemmfajbfaa
set_option linter.unusedVariables false
set_option linter.unusedSimpArgs false
open Go.RowKit

/-- Of the blocks that were there, those of S alone have turned. -/
structure Only (S : Nat → Prop) (w w' : World) : Prop where
  os : w'.os = w.os
  tape : w'.tape = w.tape
  output : w'.output = w.output
  size : w.heap.size ≤ w'.heap.size
  block : ∀ i, i < w.heap.size → ¬ S i → w'.heap[i]? = w.heap[i]?
section
variable {S T : Nat → Prop} {a b c w w' : World}
theorem Only.refl (S : Nat → Prop) (w : World) : Only S w w := ⟨rfl, rfl, rfl, Nat.le_refl _, fun _ _ _ => rfl⟩
theorem Only.trans (h : Only S a b) (k : Only T b c) (hT : ∀ i, T i → S i ∨ a.heap.size ≤ i) : Only S a c :=
  ⟨k.os.trans h.os, k.tape.trans h.tape, k.output.trans h.output, Nat.le_trans h.size k.size, fun i hi hn => (k.block i (Nat.lt_of_lt_of_le hi h.size) (fun ht => by
    rcases hT i ht with h1 | h1
    · exact hn h1
    · omega)).trans (h.block i hi hn)⟩
theorem Only.mono (h : Only S a b) (hT : ∀ i, i < a.heap.size → S i → T i) : Only T a b := ⟨h.os, h.tape, h.output, h.size, fun i hi hn => h.block i hi (fun hs => hn (hT i hi hs))⟩
theorem Only.of_below (h : Below w.heap.size w w') : Only S w w' := ⟨h.os, h.tape, h.output, h.size, fun i hi _ => h.block i hi⟩
theorem Only.of_grown {r : Nat} (h : w.grownBy w' (some r)) (hr : S r) : Only S w w' := ⟨h.os, h.tape, h.output, h.size, fun i hi hn => h.block i hi (by rintro e; injection e with e; exact hn (e ▸ hr))⟩
theorem Only.of_grown' {r : Option Nat} (h : w.grownBy w' r) (hr : ∀ b, r = some b → S b) : Only S w w' := ⟨h.os, h.tape, h.output, h.size, fun i hi hn => h.block i hi (fun e => hn (hr i e.symm))⟩
theorem Only.alloc (h : Only S a w) (o : Obj) : Only S a (w.alloc o) :=
  ⟨h.os, h.tape, h.output, Nat.le_trans h.size (by simp), fun i hi hn => (Below.heap_alloc w o i (Nat.lt_of_lt_of_le hi h.size)).trans (h.block i hi hn)⟩
theorem Only.drew (h : Only S a w) : Only S a w.drew := ⟨h.os, h.tape, h.output, h.size, h.block⟩
theorem Only.drewN (h : Only S a w) (n : Nat) : Only S a (w.drewN n) := ⟨h.os, h.tape, h.output, h.size, h.block⟩
theorem Only.set (h : Only S a w) {p : Addr} (hp : S p.block ∨ a.heap.size ≤ p.block) (u : Value) : Only S a (w.setCell p u) :=
  ⟨h.os, h.tape, h.output, by simpa [World.setCell] using h.size, fun i hi hn => (Below.heap_setCell w p u i (by
    rintro rfl
    rcases hp with hp | hp
    · exact hn hp
    · omega)).trans (h.block i hi hn)⟩
theorem Only.then_below (h : Only S a w) (k : Below w.heap.size w w') : Only S a w' := h.trans (Only.of_below (S := fun _ => False) k) (fun _ h => h.elim)
theorem Only.below {B : Nat} (h : Only S w w') (hB : B ≤ w.heap.size) (hS : ∀ i, S i → B ≤ i) : Below B w w' :=
  ⟨h.os, h.tape, h.output, h.size, fun i hi => h.block i (by omega) (fun hs => by have := hS i hs; omega)⟩
theorem Only.heap (h : Only S w w') {i : Nat} {o : Obj} (hi : w.heap[i]? = some o) (hn : ¬ S i) : w'.heap[i]? = some o := (h.block i (Array.getElem?_eq_some_iff.1 hi).1 hn).trans hi

/-- The blocks of S, and those that are new since. -/
def more (S : Nat → Prop) (w w' : World) : Nat → Prop := fun i => S i ∨ (w.heap.size ≤ i ∧ i < w'.heap.size)
end

/-- A row that is owned, by what its block holds. -/
theorem ownsRow_same {w w' : World} {base n size : Nat} {e : TypeId} {v : Value} {xs : List Value} (h : w.ownsRow base e size v n xs) (hb : ∀ b, v.ownBlock = some b → w'.heap[b]? = w.heap[b]?) : w'.ownsRow base e size v n xs := by
  refine ⟨h.1, ?_⟩
  rcases h.2 with hn | ⟨g, cap, cur, rfl, h1, h2, h3⟩
  · exact .inl hn
  · exact .inr ⟨g, cap, cur, rfl, h1, (hb g rfl).trans h2, h3⟩
theorem ownsRow_zero {w : World} {base n size : Nat} {e : TypeId} {v : Value} {xs : List Value} (h : w.ownsRow base e size v n xs) : w.ownsRow 0 e size v n xs := by
  refine ⟨h.1, ?_⟩
  rcases h.2 with hn | ⟨g, cap, cur, rfl, h1, h2⟩
  · exact .inl hn
  · exact .inr ⟨g, cap, cur, rfl, Nat.zero_le _, h2⟩
/-- One cell of an owned row, of elements of one cell. -/
theorem ownsRow_cell {w : World} {base n : Nat} {e : TypeId} {g cap : Nat} {xs : List Value} (h : w.ownsRow base e 1 (.slice (some ⟨g, 0, none⟩) n cap) n xs) {j : Nat} {u : Value} (hu : xs[j]? = some u) : w.cell? ⟨g, j, none⟩ = some u ∧ w.frozen? ⟨g, j, none⟩ = false := by
  have h1 := h.cells (g := g) rfl j u hu
  rw [Addr.add_mid, Nat.zero_add] at h1
  refine ⟨h1, ?_⟩
  rcases h.2 with ⟨hn, _⟩ | ⟨g', cap', cur, hv, h1, h2, _⟩
  · cases hn
  · cases hv
    simp [World.frozen?, h2]
/-- One cell of it is written. -/
theorem ownsRow_set {w : World} {base n : Nat} {e : TypeId} {g cap : Nat} {xs : List Value} (h : w.ownsRow base e 1 (.slice (some ⟨g, 0, none⟩) n cap) n xs) {j : Nat} (hj : j < n) (u : Value) :
    (w.setCell ⟨g, j, none⟩ u).ownsRow base e 1 (.slice (some ⟨g, 0, none⟩) n cap) n (xs.set j u) := by
  refine ⟨by rw [List.length_set]; exact h.1, ?_⟩
  rcases h.2 with ⟨hn, _⟩ | ⟨g', cap', cur, hv, h1, h2, h3, h4, h5, h6⟩
  · cases hn
  · cases hv
    refine .inr ⟨g, cap, cur.setIfInBounds j u, rfl, h1, (Blk.put (show Blk w g e cur from h2) j u), h3, h4, by simpa using h5, ?_⟩
    rw [Nat.mul_one] at h6 ⊢
    rw [← h6, Array.toList_setIfInBounds, List.take_set]
end Go.Proofs.Ytefhmemmfajbfaa

namespace Go.Proofs.Ytefhmemmfajbfaa
set_option linter.unusedVariables false
set_option linter.unusedSimpArgs false
open Go.RowKit

/-- A text as a value. -/
abbrev str (l : List UInt8) : Value := .string ⟨l.toArray⟩
theorem ret_str {a b : List UInt8} (h : a = b) : Ending.returned (str a) = .returned (str b) := by rw [h]
end Go.Proofs.Ytefhmemmfajbfaa

namespace Go.Proofs.Ytefhmemmfajbfaa
set_option linter.unusedVariables false
set_option linter.unusedSimpArgs false
open Go.RowKit

theorem flat_len' {α : Type} (f : α → List Value) (sz : Nat) (hf : ∀ x, (f x).length = sz) : ∀ l : List α, (l.flatMap f).length = l.length * sz
  | [] => by simp
  | x :: l => by
    rw [List.flatMap_cons, List.length_append, flat_len' f sz hf l, hf, List.length_cons, Nat.add_mul, Nat.one_mul, Nat.add_comm]
theorem flat_at' {α : Type} (f : α → List Value) (sz : Nat) (hf : ∀ x, (f x).length = sz) : ∀ (l : List α) (i : Nat) (x : α), l[i]? = some x → ∀ j, j < sz → (l.flatMap f)[i * sz + j]? = (f x)[j]?
  | [], i, x, h, _, _ => by simp at h
  | y :: l, 0, x, h, j, hj => by
    simp at h
    subst h
    rw [List.flatMap_cons, Nat.zero_mul, Nat.zero_add, List.getElem?_append_left (by rw [hf]; exact hj)]
  | y :: l, i + 1, x, h, j, hj => by
    have h2 := flat_at' f sz hf l i x (by simpa using h) j hj
    rw [List.flatMap_cons, List.getElem?_append_right (by rw [hf, Nat.add_mul, Nat.one_mul]; omega), hf, ← h2]
    congr 1
    rw [Nat.add_mul, Nat.one_mul]; omega
/-- A slice, and what its cells hold. -/
def SlAt (w : World) (v : Value) (n : Nat) (cs : List Value) : Prop :=
  ∃ A c, v = .slice A n c ∧ n ≤ c ∧ (0 < n → ∃ b o, A = some ⟨b, o, none⟩ ∧ b < w.heap.size ∧ ∀ j u, cs[j]? = some u → w.cell? ⟨b, o + j, none⟩ = some u)
section
variable {w w' : World} {v : Value} {n : Nat} {cs : List Value}
theorem SlAt.below (h : SlAt w v n cs) (hb : Below w.heap.size w w') : SlAt w' v n cs := by
  obtain ⟨A, c, h1, hc, h2⟩ := h
  refine ⟨A, c, h1, hc, fun hp => ?_⟩
  obtain ⟨b, o, e1, e2, e3⟩ := h2 hp
  exact ⟨b, o, e1, Nat.lt_of_lt_of_le e2 hb.size, fun j u hu => (World.cell?_of_block (hb.block b e2)).trans (e3 j u hu)⟩
theorem SlAt.form (h : SlAt w v n cs) : ∃ A c, v = .slice A n c := by
  obtain ⟨A, c, h1, _⟩ := h
  exact ⟨A, c, h1⟩
theorem SlAt.cells {A : Option Addr} {c : Nat} (h : SlAt w (.slice A n c) n cs) (hp : 0 < n) : ∃ b o, A = some ⟨b, o, none⟩ ∧ b < w.heap.size ∧ ∀ j u, cs[j]? = some u → w.cell? ⟨b, o + j, none⟩ = some u := by
  obtain ⟨A', c', h1, _, h2⟩ := h
  cases h1
  exact h2 hp
theorem slAt_own {base sz : Nat} {t : TypeId} (h : w.ownsRow base t sz v n cs) : SlAt w v n cs := by
  rcases h.2 with ⟨rfl, h0⟩ | ⟨g, cap, cur, rfl, h1, h2, h3⟩
  · subst h0
    exact ⟨none, 0, rfl, Nat.le_refl _, fun h => absurd h (by omega)⟩
  · refine ⟨some ⟨g, 0, none⟩, cap, rfl, h3.1, fun _ => ⟨g, 0, rfl, lt_of_block h2, fun j u hu => ?_⟩⟩
    have := h.cells rfl j u hu
    rwa [Addr.add_mid] at this
end
def strL (s : List UInt8) : List Value := [str s]
def strC (l : List (List UInt8)) : List Value := l.flatMap strL
theorem strC_len (l : List (List UInt8)) : (strC l).length = l.length := by rw [strC, flat_len' strL 1 (fun _ => rfl), Nat.mul_one]
theorem strC_at {l : List (List UInt8)} {i : Nat} {s : List UInt8} (h : l[i]? = some s) : (strC l)[i]? = some (str s) := by
  have := flat_at' strL 1 (fun _ => rfl) l i s h 0 (by omega)
  rw [Nat.mul_one, Nat.add_zero] at this
  exact this
theorem strC_snoc (l : List (List UInt8)) (s : List UInt8) : strC (l ++ [s]) = strC l ++ [str s] := by simp [strC, strL]
/-- What a predicate answers, wherever it is called. -/
def SlPred {α : Type} (E : α → Value) (fn : FuncId) (caps : Array Value) (p : α → Bool) (l : List α) (w0 : World) : Prop :=
  ∀ (x : α) (w : World), x ∈ l → Below w0.heap.size w0 w → Calls Try.prog fn (#[E x] ++ caps) w fun e w' => e = .returned (.bool (p x)) ∧ Below w.heap.size w w'

set_option maxRecDepth 20000 in
theorem idxStr_any (fn : FuncId) (caps : Array Value) {w : World} {ss : List (List UInt8)} {sv : Value} (p : List UInt8 → Bool) (h1 : SlAt w sv ss.length (strC ss)) (f1 : ss.length ≤ 1000000) (hgo : ∀ (args : Array Value) (w : World), (callFunc fn args).run Try.prog w = .ok (.enter fn args) w) (hp : SlPred str fn caps p ss w) :
    Calls Try.prog 51 #[sv, .func (.func fn) #[] caps] w fun e w' => e = .returned (.int .i64 (firstAt p ss)) ∧ Below w.heap.size w w' := by
  obtain ⟨A, c1, rfl⟩ := h1.form
  have H1 := Lib.hid h1
  have HP := Lib.hid hp
  clear h1 hp
  go_enter Try.func51, Try.ntmps51
  go_wp2_with fail
  go_loopw [5, 8] (fun _ t wr => ∃ k : Nat, k ≤ ss.length ∧ t = .int .i64 k ∧ Below w.heap.size w wr ∧ ∀ j, j < k → ∀ x, ss[j]? = some x → p x = false) (fun _ t _ => ss.length - (RowKit.intOf t).toNat)
  case atStart => exact ⟨0, Nat.zero_le _, rfl, Below.refl _ _, fun j hj => absurd hj (Nat.not_lt_zero _)⟩
  case round =>
    obtain ⟨k, hk, rfl, hb, hal⟩ := hrel
    have HB := Lib.hid hb
    have HAL := Lib.hid hal
    by_cases hlt : k < ss.length
    · obtain ⟨b, oo, rfl, hbl, hcell⟩ := H1.out.cells (by omega)
      obtain ⟨x, hx⟩ : ∃ x, ss[k]? = some x := ⟨_, List.getElem?_eq_getElem hlt⟩
      have f0 : wr.cell? ⟨b, oo + k, none⟩ = some (str x) := (World.cell?_of_block (hb.block b hbl)).trans (hcell _ _ (strC_at hx))
      have hdc : decide (k < ss.length) = true := decide_eq_true hlt
      have HLT := Lib.hid hlt
      have HXX := Lib.hid hx
      clear hcell hx hb hal hbl
      go_wp2_with fail
      refine (HP.out x wr (List.mem_of_getElem? HXX.out) HB.out).mono ?_
      rintro e w1 ⟨rfl, hb1⟩
      have HB1 := Lib.hid (keep_below hb1 HB.out)
      clear hb1
      cases hpx : p x with
      | true =>
        have HE := Lib.hid hpx
        clear hpx
        go_wp2_with fail
        go_ret
        exact ⟨ret_int (firstAt_hit HXX.out HE.out HAL.out).symm, HB1.out⟩
      | false =>
        have HE := Lib.hid hpx
        clear hpx
        go_wp2_with fail
        go_roundw
        case rel =>
          refine ⟨k + 1, HLT.out, by go_num, HB1.out, fun j hj y hy => ?_⟩
          by_cases e : j < k
          · exact HAL.out j e y hy
          · obtain rfl : j = k := by omega
            have h2 := HXX.out
            rw [hy] at h2
            cases h2
            exact HE.out
        case measure => have := HLT.out; simp [RowKit.intOf]; omega
    · obtain rfl : k = ss.length := by omega
      have hdc : decide ((ss.length : Int) < ss.length) = false := decide_eq_false (by omega)
      clear hb hal
      go_wp2_with fail
      go_ret
      exact ⟨ret_int (firstAt_miss HAL.out).symm, HB.out⟩
theorem conStr_any (fn : FuncId) (caps : Array Value) {w : World} {ss : List (List UInt8)} {sv : Value} (p : List UInt8 → Bool) (h1 : SlAt w sv ss.length (strC ss)) (f1 : ss.length ≤ 1000000) (hgo : ∀ (args : Array Value) (w : World), (callFunc fn args).run Try.prog w = .ok (.enter fn args) w) (hp : SlPred str fn caps p ss w) :
    Calls Try.prog 32 #[sv, .func (.func fn) #[] caps] w fun e w' => e = .returned (.bool (ss.any p)) ∧ Below w.heap.size w w' := by
  have H := Lib.hid (idxStr_any fn caps p h1 f1 hgo hp)
  clear hp hgo h1
  go_enter Try.func32, Try.ntmps32
  go_wp2_with fail
  refine H.out.mono ?_
  rintro e w1 ⟨rfl, hb1⟩
  go_wp2_with fail
  go_ret
  exact ⟨ret_bool (firstAt_nonneg _ _), hb1⟩
end Go.Proofs.Ytefhmemmfajbfaa

namespace Go.Proofs.Ytefhmemmfajbfaa
set_option linter.unusedVariables false
set_option linter.unusedSimpArgs false
open Go.RowKit

/-- Bytes as cells. -/
def bytC (X : List UInt8) : List Value := X.map fun b => Value.int .u8 (b.toNat : Int)
theorem Try.infoU8 : (Try.prog.info? 5).map (fun i => (i.zero, i.size, i.bytes)) = some (some (.int .u8 0), 1, 1) := by kernel_rfl
theorem mk_bytes (w : World) (n : Nat) (hn : n ≤ 16384) : ∃ w1, (Instr.makeSlice 45 (.int .i64 n) (.int .i64 n)).run Try.prog w = .ok (.slice (some ⟨w.heap.size, 0, none⟩) n n) w1 ∧
    Blk w1 w.heap.size 5 (bytC (List.replicate n 0)).toArray ∧ w1.heap.size = w.heap.size + 1 ∧ Below w.heap.size w w1 := by
  obtain ⟨i0, hi, hz0, hz1, hz2⟩ := info_parts Try.infoU8
  have hrun := run_makeSlice w 45 5 i0 (.int .u8 0) Try.underlying45 hi hz0 .i64 .i64 n n (by omega) (Int.le_refl _) (by rw [hz1]; omega) (by rw [hz2]; omega) (by omega)
  have hc : madeCells (Value.int .u8 0).cells ((n : Int).toNat * i0.size) = (bytC (List.replicate n 0)).toArray := by
    rw [hz1, Int.toNat_natCast, Nat.mul_one]
    apply Array.ext'
    have : (Value.int .u8 0).cells = #[.int .u8 0] := rfl
    rw [this, toList_madeCells_one]
    simp [bytC]
  rw [hc, Int.toNat_natCast] at hrun
  exact ⟨_, hrun, Blk.new _ _ _, by simp, keep_alloc (Below.refl _ _) _⟩
theorem conv_bytes {w : World} {g : Nat} {X : List UInt8} (hX : Blk w g 5 (bytC X).toArray) (n cap : Nat) (hn : n = X.length) : (convert 45 9 (.slice (some ⟨g, 0, none⟩) n cap)).run Try.prog w = .ok (str X) w := by
  subst hn
  refine run_convert_bytes_back (P := Try.prog) w 45 9 5 ⟨g, 0, none⟩ cap X Try.underlying45 Try.underlying5 Try.underlying9 (fun j hj => ?_)
  rw [Addr.add_mid, Nat.zero_add]
  refine hX.at_ ?_
  simp [bytC, List.getElem?_eq_getElem hj]
theorem bytC_at {X : List UInt8} {j : Nat} {x : UInt8} (h : X[j]? = some x) : (bytC X).toArray[j]? = some (.int .u8 (x.toNat : Int)) := by
  simp [bytC, h]
theorem bytC_set {X : List UInt8} {j : Nat} (x : UInt8) : (bytC X).toArray.setIfInBounds j (.int .u8 (x.toNat : Int)) = (bytC (X.set j x)).toArray := by
  simp [bytC, List.map_set]
theorem xor_cell (a b : UInt8) : bits .xor .u8 (a.toNat : Int) (b.toNat : Int) = (((a ^^^ b).toNat : Nat) : Int) := by
  rw [u8_xor_nat _ _ a.toNat_lt b.toNat_lt, UInt8.toNat_xor]
end Go.Proofs.Ytefhmemmfajbfaa

namespace Go.Proofs.Ytefhmemmfajbfaa
set_option linter.unusedVariables false
set_option linter.unusedSimpArgs false

def xorL (a b : List UInt8) : List UInt8 := List.zipWith (fun x y => x ^^^ y) a b
def parN (n : Nat) (l : List (List UInt8)) : List UInt8 := l.foldl xorL (List.replicate n 0)
def evenB (l : List (List UInt8)) : Bool := l.all fun s => s.length == (l.headD []).length
def makeS (l : List (List UInt8)) : List UInt8 := if l ≠ [] ∧ evenB l = true then parN (l.headD []).length l else []
def makeE (l : List (List UInt8)) : Int := if l ≠ [] ∧ evenB l = true then 0 else 1
theorem xorL_len {a b : List UInt8} (h : a.length = b.length) : (xorL a b).length = a.length := by unfold xorL; rw [List.length_zipWith]; omega
theorem parN_snoc (n : Nat) (l : List (List UInt8)) (s : List UInt8) : parN n (l ++ [s]) = xorL (parN n l) s := by simp [parN]
theorem fold_len (n : Nat) : ∀ (l : List (List UInt8)) (a : List UInt8), a.length = n → (∀ s ∈ l, s.length = n) → (l.foldl xorL a).length = n
  | [], a, ha, _ => ha
  | s :: l, a, ha, h => by
    rw [List.foldl_cons]
    exact fold_len n l _ (by rw [xorL_len (by rw [ha, h s List.mem_cons_self])]; exact ha) (fun x hx => h x (List.mem_cons_of_mem _ hx))
theorem parN_len {n : Nat} {l : List (List UInt8)} (h : ∀ s ∈ l, s.length = n) : (parN n l).length = n := fold_len n l _ (by simp) h
theorem evenB_spec {l : List (List UInt8)} (h : evenB l = true) : ∀ s ∈ l, s.length = (l.headD []).length := fun s hs => by
  have := List.all_eq_true.1 h s hs
  simpa using this
/-- What a round has made of the bytes. -/
def xorTo (a b : List UInt8) (k : Nat) : List UInt8 := (xorL (a.take k) (b.take k)) ++ a.drop k
theorem xorTo_zero (a b : List UInt8) : xorTo a b 0 = a := by simp [xorTo, xorL]
theorem xorTo_all {a b : List UInt8} (h : a.length = b.length) : xorTo a b a.length = xorL a b := by
  unfold xorTo
  rw [List.take_length, h, List.take_length, ← h, List.drop_length, List.append_nil]
theorem xorTo_get {a b : List UInt8} {k : Nat} {x : UInt8} (hx : a[k]? = some x) (h : a.length = b.length) : (xorTo a b k)[k]? = some x := by
  have hk := (List.getElem?_eq_some_iff.1 hx).1
  have hl : (xorL (a.take k) (b.take k)).length = k := by unfold xorL; rw [List.length_zipWith, List.length_take, List.length_take]; omega
  unfold xorTo
  rw [List.getElem?_append_right (by omega), hl, Nat.sub_self, List.getElem?_drop, Nat.add_zero]
  exact hx
theorem xorTo_set {a b : List UInt8} {k : Nat} {x y : UInt8} (hx : a[k]? = some x) (hy : b[k]? = some y) (h : a.length = b.length) : (xorTo a b k).set k (x ^^^ y) = xorTo a b (k + 1) := by
  have hk := (List.getElem?_eq_some_iff.1 hx).1
  have hl : (xorL (a.take k) (b.take k)).length = k := by unfold xorL; rw [List.length_zipWith, List.length_take, List.length_take]; omega
  have e1 : a.drop k = x :: a.drop (k + 1) := by
    rw [List.drop_eq_getElem_cons hk]
    rw [List.getElem?_eq_getElem hk] at hx
    rw [Option.some.inj hx]
  have e2 : xorL (a.take (k + 1)) (b.take (k + 1)) = xorL (a.take k) (b.take k) ++ [x ^^^ y] := by
    rw [List.take_add_one, List.take_add_one, hx, hy]
    unfold xorL
    rw [List.zipWith_append (by rw [List.length_take, List.length_take]; omega)]
    rfl
  unfold xorTo
  rw [List.set_append_right _ _ (by omega), hl, Nat.sub_self, e1, List.set_cons_zero, e2, List.append_assoc]
  rfl
def secN (s : List UInt8) : Nat := s.length / 64
def secAt (s : List UInt8) (i : Nat) : List UInt8 := (s.drop (i * 64)).take 64
def secsL (s : List UInt8) : List (List UInt8) := (List.range (secN s)).map (secAt s)
def secOk (s : List UInt8) : Bool := decide (s ≠ []) && (decide (s.length % 64 = 0) && decide (s.length ≤ 256))
theorem secsL_len (s : List UInt8) : (secsL s).length = secN s := by simp [secsL]
theorem secAt_len {s : List UInt8} {i : Nat} (h : i < secN s) : (secAt s i).length = 64 := by
  unfold secN at h
  unfold secAt
  rw [List.length_take, List.length_drop]
  omega
theorem secsL_at {s : List UInt8} {i : Nat} (h : i < secN s) : (secsL s)[i]? = some (secAt s i) := by simp [secsL, h]
end Go.Proofs.Ytefhmemmfajbfaa
