/-
  Package model: what a world has in memory; the maps' calls.
-/
import Derived.Test.YtckicdbiiepngaaRows
import Derived.Test.YtckicdbiiepngaaStr
import Derived.Test.YtckicdbiiepngaaOnly
import Derived.Test.YtckicdbiiepngaaEff
import Derived.Test.YtckicdbiiepngaaShelf
import Derived.Maps.AppendAt
namespace Go.Proofs.Ytckicdbiiepngaa
set_option linter.unusedVariables false
set_option linter.unusedSimpArgs false
open Go.RowKit Go.Maps Go.Lib Go.Shelf

abbrev DT := DataW Value
/-- A text of at most 16384 bytes, read. -/
def RT (v : Value) : Option (DT × List MemPlace) :=
  match v with
  | .string s => if s.size ≤ 16384 then some (.lit (.string s.data.toList), []) else none
  | _ => none
theorem rt_some {v : Value} {d : DT} {ps : List MemPlace} (h : RT v = some (d, ps)) : ∃ s : ByteArray, v = .string s ∧ s.size ≤ 16384 ∧ d = .lit (.string s.data.toList) ∧ ps = [] := by
  unfold RT at h
  split at h
  · rename_i s
    split at h
    · rename_i hs
      simp only [Option.some.injEq, Prod.mk.injEq] at h
      exact ⟨s, rfl, hs, h.1.symm, h.2.symm⟩
    · cases h
  · cases h
theorem rt_str (s : List UInt8) (h : s.length ≤ 16384) : RT (str s) = some (.lit (.string s), []) := by
  unfold RT str
  simp [ByteArray.size, h]
abbrev MapT (w : World) (b N : Nat) (D : DT) : Prop := w.ownsMap Try.prog 3 RT b N D
theorem kint : Keyed Try.prog 3 := int_keyed Try.underlying3
theorem MapT.same {w w' : World} {b N : Nat} {D : DT} (h : MapT w b N D) (hb : w'.heap[b]? = w.heap[b]?) : MapT w' b N D := by
  obtain ⟨es, c, e1, r⟩ := h
  exact ⟨es, c, hb.trans e1, r⟩

theorem merge_empty {D : DT} (hc : Canon D) (hm : Canon (mergeD (.map [] : DT) D)) : mergeD (.map []) D = D := by
  obtain ⟨es, rfl, hp, hk⟩ := hc
  refine Maps.ext hm ⟨es, rfl, hp, hk⟩ (fun k => ?_) (fun k z _ => ?_)
  · show has (es.foldl (fun (D : DT) p => D.put p.1 p.2) (DataW.map [] : DT)) k = has (DataW.map es : DT) k
    rw [has_foldPut k es _ ⟨[], rfl⟩ hk, has_eq, has_eq]
    simp
  · show (es.foldl (fun (D : DT) p => D.put p.1 p.2) (DataW.map [] : DT)).atKey k z = (DataW.map es : DT).atKey k z
    rw [atKey_foldPut k z es _ ⟨[], rfl⟩ hk (apart_of_rising hp)]
    simp only [DataW.atKey]
    generalize es.find? (fun p => p.1.sameKey k) = o
    cases o <;> rfl

def eqT (a b : DT) : Bool :=
  match a, b with
  | .lit (.string x), .lit (.string y) => ((⟨x.toArray⟩ : ByteArray).toList == (⟨y.toArray⟩ : ByteArray).toList)
  | _, _ => false
theorem zero_string (w : World) : (zeroValue 9).run Try.prog w = .ok (.string ⟨#[]⟩) w := by kernel_rfl
theorem neq_str (W : World) (x y : Value) (xd yd : DT) (xp yp : List MemPlace) (hx : RT x = some (xd, xp)) (hy : RT y = some (yd, yp)) :
    (binOp .neq 9 x y).run Try.prog W = .ok (.bool (!eqT xd yd)) W ∧ ∀ (a b : Operand), (eqGuard .neq 9 a b x y).run Try.prog W = .ok () W := by
  obtain ⟨s, rfl, _, rfl, _⟩ := rt_some hx
  obtain ⟨t, rfl, _, rfl, _⟩ := rt_some hy
  refine ⟨?_, fun a b => ?_⟩
  · have e : eqT (.lit (.string s.data.toList)) (.lit (.string t.data.toList)) = (s.toList == t.toList) := rfl
    rw [e]
    simp [go_sem, binOp, Op.stringOp]
  · rw [eqGuard_at_string]; rfl
theorem eqT_self {D : DT} {k : Lit} {s : List UInt8} : eqT (.lit (.string s)) (.lit (.string s)) = true := by
  show (_ == _) = true
  exact beq_self_eq_true _
theorem equal_opt {p1 p2 : Option Nat} {D1 D2 : DT} {w : World} (h1 : SrcOf Try.prog 3 RT w p1 D1) (h2 : SrcOf Try.prog 3 RT w p2 D2) :
    Calls Try.prog 36 #[.map p1, .map p2] w fun e w' => e = .returned (.bool (equalFuncD eqT D1 D2)) ∧ w.grownBy w' none :=
  AnyEq.maps_Equal_opt Try.equalA kint RT RT eqT p1 p2 D1 D2 w h1 h2 (.string ⟨#[]⟩) zero_string (.lit (.string [])) [] (rt_str [] (by simp)) neq_str
theorem clone_any {b N : Nat} {D : DT} {w : World} (h : MapT w b N D) : Calls Try.prog 45 #[.map (some b)] w fun e w' => e = .returned (.map (some w.heap.size)) ∧ MapT w' w.heap.size N D ∧ w'.heap.size = w.heap.size + 1 ∧ Below w.heap.size w w' := by
  obtain ⟨es, clock, hb, F, hs, hD⟩ := h
  refine (AnyW.maps_Clone Try.cloneA b es clock w hb).mono fun e w' ⟨he, hw⟩ => ?_
  subst hw
  exact ⟨he, ⟨es, clock, (MapKept.heap_alloc w _).1, F, hs, hD⟩, by simp, (Below.refl _ w).alloc (Nat.le_refl _) _⟩
/-- maps.Copy into a new map. -/
theorem copy_any {bd N : Nat} {ps : Option Nat} {D : DT} {w : World} (hd : MapT w bd 0 (.map [])) (hs : SrcOf Try.prog 3 RT w ps D) (hne : ps ≠ some bd) (hN : Maps.size D ≤ N) (hN2 : N ≤ 1000000) :
    Calls Try.prog 44 #[.map (some bd), .map ps] w fun e w' => e = .returned (.tuple #[]) ∧ MapT w' bd N (mergeD (.map []) D) ∧ w.grownBy w' (some bd) :=
  (AnyX.maps_Copy_opt Try.copyA kint RT bd 0 ps (.map []) D w hd hs hne (by unfold maxLen; omega)).mono fun e w' ⟨he, h1, h2⟩ => ⟨he, World.ownsMap.mono h1 (by omega), h2⟩
end Go.Proofs.Ytckicdbiiepngaa
