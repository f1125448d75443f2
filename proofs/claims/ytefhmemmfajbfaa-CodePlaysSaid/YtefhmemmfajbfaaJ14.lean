/-
  Regions that draw their order, inside a wide fence (a round, or the activation of a function that calls yield): reads and effects by the plain laws, a forced tail that may call yield. No program stands here.
  What a round keeps; contracts of package code: mirror.
  Rows of whole numbers.
-/
import Derived.Test.YtefhmemmfajbfaaJ11
import Derived.Test.YtefhmemmfajbfaaJ12
import Derived.Test.YtefhmemmfajbfaaJ13
import Derived.RangeFuncNested
import Derived.RangeFuncBound
import Derived.RangeFuncCalls
import Derived.RangeFuncLeaves
import Derived.Shelf.RegionOpen
import Derived.OwnWalkIn
import Derived.TacticsInMore
import Derived.LoopNIn
import Derived.LoopIn
import Derived.Test.YtefhmemmfajbfaaJ10
import Derived.WalkKit
import Derived.Test.YtefhmemmfajbfaaJ06
namespace Go.Proofs.Ytefhmemmfajbfaa
set_option linter.unusedVariables false
set_option linter.unusedSimpArgs false
open Go.RowKit

/-- A fence that lets all by. -/
structure Wide (F : Fence) : Prop where
  fn : ∀ f, F.fn f
  depth : F.depth = none
  calls : ∀ {n : Nat} {P : Program} {f : FuncId} {args : Array Value} {w : World} {R : Ending → World → Prop}, Calls P f args w R → CallsIn F n P f args w R
  rows : ∀ {n : Nat} {P : Program} {row : String} {args : Array Value} {w : World} {R : Value → World → Prop}, Rows P row args w R → RowsIn F n P row args w R
theorem wide_wide : Wide Fence.wide :=
  ⟨fun _ => trivial, rfl, fun h => callsIn_wide.2 h, fun h c cs _ => let ⟨v, w', r, s⟩ := h c cs; ⟨v, w', r, stepsIn_wide.2 s⟩⟩
theorem Wide.inRound {F : Fence} (h : Wide F) (l : Nat) : Wide (F.inRound l) := ⟨h.fn, h.depth, fun hh => CallsIn.inRound l (h.calls hh), fun hh => h.rows hh⟩
def noDeferB (o : Oper) : Bool := match o.op with | .defer _ => false | _ => true
theorem semAt_plain {o : Oper} (h : noDeferB o = true) (ro : Option Nat) (ρ : Operand → Value) : o.semAt ro ρ = execOp ρ o := by
  cases ro with
  | none => rfl
  | some l =>
    refine Oper.semAt_some l ρ o (fun c hc => ?_)
    unfold noDeferB at h
    rw [hc] at h
    cases h
section
variable {F : Fence} {m : Nat} {P : Program} {ops : Array Oper} {md : Region.Mode} {S : World → Prop} {eff : Nat → Bool}
theorem wpIn_of_wpn {o : Oper} {a : Act} {w : World} {K : Act → World → Prop} {Q : Exit → Act → World → Prop} (hF : Wide F) (hs : noDeferB o = true) (h : Oper.wpn P o a w K) : o.wpIn F m P a w K Q := by
  refine ⟨fun f _ => hF.fn f, ?_⟩
  rw [semAt_plain hs]
  unfold Oper.wpn Oper.wp at h
  have hd : F.depth.isSome = true → 1 ≤ m := fun hd => by rw [hF.depth] at hd; cases hd
  generalize (execOp a.eval o).run P w = r at *
  cases r with
  | ok x w' =>
    cases x <;> simp only [Oper.upon, Oper.uponIn] at h ⊢
    case value v => exact h
    case skip => exact h
    case defer d => exact h
    case enter f args =>
      refine ⟨hd, CallsIn.mono (hF.calls h) (fun e w'' he => ?_)⟩
      cases e with
      | returned v => exact he
      | panicked c => exact absurd he nrm_false
      | outgrown => exact absurd he nrm_out
    case row row args => exact ⟨hd, hF.rows h⟩
  | halt x w' => cases x <;> simp only [Oper.upon, Oper.uponIn] at h ⊢; exact absurd h nrm_false
theorem wpIn_of_quiet {o : Oper} {a : Act} {w : World} {K : Act → Prop} {Q : Exit → Act → World → Prop} (hF : Wide F) (hs : noDeferB o = true) (hw : S w) (hN : NoEnter P o) (h : o.quiet P a S K) : o.wpIn F m P a w (fun a' w' => w' = w ∧ K a') Q := by
  refine ⟨fun f _ => hF.fn f, ?_⟩
  rw [semAt_plain hs]
  obtain ⟨v, h1, h2⟩ := h
  have h3 := h1 w hw
  unfold Oper.quietAt at h3
  have hN' := hN a.eval w
  generalize (execOp a.eval o).run P w = r at *
  cases r with
  | ok n w' =>
    cases n <;> simp only [Oper.quietUpon] at h3 <;> simp only [Oper.uponIn]
    case value u => obtain ⟨rfl, rfl⟩ := h3; exact ⟨rfl, h2⟩
    case skip => obtain ⟨rfl, rfl⟩ := h3; exact ⟨rfl, h2⟩
    case enter f args => exact absurd (hN' _ _ rfl) (by simp [entersB])
  | halt x w' => simp only [Oper.quietUpon] at h3
theorem wpOpIn_of_efOpG {i : Nat} {a : Act} {K : Act → World → Prop} {K' : Act → World → Prop} {Q' : Exit → Act → World → Prop} {w : World} (hF : Wide F) (hdf : ∀ o, ops[i]? = some o → noDeferB o = true) (hw : S w)
    (hne : ∀ o, ops[i]? = some o → eff i = false → NoEnter P o) (h : ∀ a w, S w → K a w → K' a w) (hh : G.efOp P ops S eff i K a w) : wpOpIn F m P ops Q' i K' a w := by
  unfold G.efOp at hh
  unfold wpOpIn
  split
  · rename_i ho; simp only [ho] at hh; exact h _ _ hw hh
  · rename_i o ho
    simp only [ho] at hh
    cases he : eff i with
    | true =>
      simp only [he, if_true] at hh
      have hwn := hh.1
      simp only [hwn, if_true]
      exact Oper.wpIn_mono (fun a' w' h' => h _ _ h'.1 h'.2) (wpIn_of_wpn hF (hdf o ho) hh.2)
    | false =>
      simp only [he, Bool.false_eq_true, if_false] at hh
      split
      · rename_i hwn
        simp only [hwn, if_true] at hh
        exact Oper.wpIn_mono (fun a' w' h' => by obtain ⟨rfl, h'⟩ := h'; exact h _ _ hw h') (wpIn_of_quiet hF (hdf o ho) hw (hne o ho he) hh)
      · rename_i hwn; simp only [hwn] at hh; exact ⟨fun f _ => hF.fn f, h _ _ hw hh⟩
theorem wpAnyIn_of_effG {n g : Nat} {L : Array Bool → Act → World → Prop} {Q' : Exit → Act → World → Prop} (hF : Wide F) (hdf : ∀ (i : Nat) (o : Oper), ops[i]? = some o → noDeferB o = true) (hne : ∀ (i : Nat) (o : Oper), ops[i]? = some o → i < n → eff i = false → NoEnter P o)
    (hL : ∀ listed a w, S w → L listed a w → wpAnyIn F m P md ops Q' g listed a w) :
    ∀ (f : Nat) (listed : Array Bool) (a : Act) (w : World), S w → G.wpAnyE P md ops S eff n L f listed a w → wpAnyIn F m P md ops Q' (f + g) listed a w
  | 0, listed, a, w, hw, h => by rw [Nat.zero_add]; exact hL _ _ _ hw h
  | f + 1, listed, a, w, hw, h => by
    rw [show f + 1 + g = (f + g) + 1 by omega]
    exact ⟨fun h0 => absurd h0 h.1, fun i hi => wpOpIn_of_efOpG hF (hdf i) hw (fun o ho he => hne i o ho (h.2 i hi).1 he) (fun a' w' hw' h' => wpAnyIn_of_effG hF hdf hne hL f _ a' w' hw' h') (h.2 i hi).2⟩
theorem wpOpIn_of_efOp {i : Nat} {a : Act} {K : Act → World → Prop} {K' : Act → World → Prop} {Q' : Exit → Act → World → Prop} {w : World} (hF : Wide F) (hdf : ∀ o, ops[i]? = some o → noDeferB o = true) (hw : S w) (hg : ∀ o, ops[i]? = some o → eff i = true → o.guard = none)
    (hne : ∀ o, ops[i]? = some o → eff i = false → NoEnter P o) (h : ∀ a w, S w → K a w → K' a w) (hh : efOp P ops S eff i K a w) : wpOpIn F m P ops Q' i K' a w := by
  unfold efOp at hh
  unfold wpOpIn
  split
  · rename_i ho; simp only [ho] at hh; exact h _ _ hw hh
  · rename_i o ho
    simp only [ho] at hh
    cases he : eff i with
    | true =>
      simp only [he, if_true] at hh
      have hwn : Region.wanted o (yielded ops a.tmps) = true := by simp only [Region.wanted, hg o ho he]
      simp only [hwn, if_true]
      exact Oper.wpIn_mono (fun a' w' h' => h _ _ h'.1 h'.2) (wpIn_of_wpn hF (hdf o ho) hh)
    | false =>
      simp only [he, Bool.false_eq_true, if_false] at hh
      split
      · rename_i hwn
        simp only [hwn, if_true] at hh
        exact Oper.wpIn_mono (fun a' w' h' => by obtain ⟨rfl, h'⟩ := h'; exact h _ _ hw h') (wpIn_of_quiet hF (hdf o ho) hw (hne o ho he) hh)
      · rename_i hwn; simp only [hwn] at hh; exact ⟨fun f _ => hF.fn f, h _ _ hw hh⟩
theorem wpAnyIn_of_eff {n g : Nat} {L : Array Bool → Act → World → Prop} {Q' : Exit → Act → World → Prop} (hF : Wide F) (hdf : ∀ (i : Nat) (o : Oper), ops[i]? = some o → noDeferB o = true) (hg : ∀ (i : Nat) (o : Oper), ops[i]? = some o → eff i = true → o.guard = none) (hne : ∀ (i : Nat) (o : Oper), ops[i]? = some o → i < n → eff i = false → NoEnter P o)
    (hL : ∀ listed a w, S w → L listed a w → wpAnyIn F m P md ops Q' g listed a w) :
    ∀ (f : Nat) (listed : Array Bool) (a : Act) (w : World), S w → wpAnyE P md ops S eff n L f listed a w → wpAnyIn F m P md ops Q' (f + g) listed a w
  | 0, listed, a, w, hw, h => by rw [Nat.zero_add]; exact hL _ _ _ hw h
  | f + 1, listed, a, w, hw, h => by
    rw [show f + 1 + g = (f + g) + 1 by omega]
    exact ⟨fun h0 => absurd h0 h.1, fun i hi => wpOpIn_of_efOp hF (hdf i) hw (hg i) (fun o ho he => hne i o ho (h.2 i hi).1 he) (fun a' w' hw' h' => wpAnyIn_of_eff hF hdf hg hne hL f _ a' w' hw' h') (h.2 i hi).2⟩
theorem wpAnyIn_of_seq {Q' : Exit → Act → World → Prop} : ∀ (l : List Oper) (k : Nat) (listed : Array Bool) (a : Act) (w : World), (∀ j, l[j]? = ops[k + j]?) →
    Region.seqB md ops l.length k listed = true → wpListIn F m P ops Q' l a w → wpAnyIn F m P md ops Q' l.length listed a w
  | [], _, _, _, _, _, hB, h => ⟨by simpa [Region.seqB] using hB, h⟩
  | o :: l, k, listed, a, w, hl, hB, h => by
    have h0 : ops[k]? = some o := by simpa using (hl 0).symm
    simp only [List.length_cons, Region.seqB, Bool.and_eq_true, decide_eq_true_eq] at hB
    refine ⟨fun h1 => (by rw [hB.1] at h1; cases h1), fun i hi => ?_⟩
    rw [hB.1] at hi
    have hik : i = k := by simpa using hi
    subst hik
    have hw : wpOpIn F m P ops Q' i (wpListIn F m P ops Q' l) a w := by unfold wpOpIn; simp only [h0]; exact h
    exact wpOpIn_mono (fun a' w' h' => wpAnyIn_of_seq l (i + 1) _ a' w' (fun j => by have := hl (j + 1); simpa [Nat.add_assoc, Nat.add_comm 1 j] using this) hB.2 h') hw
theorem all_plain {l : List Oper} (h : l.all noDeferB = true) : ∀ (i : Nat) (o : Oper), l.toArray[i]? = some o → noDeferB o = true := fun i o ho => by
  rw [List.getElem?_toArray] at ho
  exact List.all_eq_true.1 h o (List.mem_of_getElem? ho)
/-- A region of reads and effects (guarded ones too), then a forced tail, in a wide fence. -/
theorem wpIn_region_effG {id : Nat} {Q : Exit → Act → World → Prop} {a : Act} {w : World} {l : List Oper} (hF : Wide F) (S : World → Prop) (cuts : List Nat) (n : Nat) (hm : P.follows .mixedOrders = true) (hD : l.all noDeferB = true) (hB : Region.lexTailB .any l.toArray n = true)
    (hE : G.effB .any l.toArray n (fun i => cuts.contains i) = true) (hS : S w.drew)
    (h : G.wpLexE P l.toArray S (fun i => cuts.contains i) (fun a' w' => wpListIn F m P l.toArray Q (l.drop n) a' w') (l.take n) 0 a w.drew) : (Code.region id l.toArray true).wpIn F m P Q a w := by
  obtain ⟨hne, hch⟩ := G.effB_spec (P := P) hE
  simp only [Region.lexTailB, Bool.and_eq_true, decide_eq_true_eq] at hB
  obtain ⟨⟨⟨⟨hsel, hn⟩, hs⟩, hc⟩, hlex⟩ := hB
  have hn' : n < l.length := by simpa using hn
  have htl : (l.take n).length = n := by simp; omega
  have hdl : (l.drop n).length = l.toArray.size - n := by simp
  have inv0 : HeadInv .any l.toArray n (Array.replicate l.toArray.size false) :=
    ⟨by simp, fun j oj _ hl => (by rw [getD_replicate_false] at hl; cases hl), fun t _ ht => getD_in (by simpa using ht) (getD_replicate_false _ _)⟩
  have einv0 : G.EffInv l.toArray (fun i => cuts.contains i) 0 (Array.replicate l.toArray.size false) := ⟨fun j hj => by omega, fun j _ hj _ => getD_in (by simpa using hj) (getD_replicate_false _ _)⟩
  have H := G.wpAnyE_lex (md := .any) (g := l.toArray.size - n) hsel hs hc hn hne hch (l.take n) 0 _ a w.drew hS (fun j hj => by
    have hj' : j < n := by rw [htl] at hj; exact hj
    simp [hj']) (by simpa using htl) inv0 einv0 (by rw [htl]; exact hlex) h
  refine wpIn_region_any hm ?_
  have := wpAnyIn_of_effG (F := F) (m := m) (Q' := Q) (g := l.toArray.size - n) hF (all_plain hD) hne (fun listed a' w' _ hL => by
    have := wpAnyIn_of_seq (F := F) (m := m) (md := .any) (Q' := Q) (l.drop n) n listed a' w' (fun j => by simp [List.getElem?_drop]) (by rw [hdl]; exact hL.1) hL.2
    rwa [hdl] at this) _ _ _ _ hS H
  rw [htl, show n + (l.toArray.size - n) = l.toArray.size by omega] at this
  exact this
/-- A region of reads and effects without a forced tail, in a wide fence. -/
theorem wpIn_region_effA {id : Nat} {Q : Exit → Act → World → Prop} {a : Act} {w : World} {l : List Oper} (hF : Wide F) (S : World → Prop) (cuts : List Nat) (hm : P.follows .mixedOrders = true) (hD : l.all noDeferB = true)
    (hB : (Region.noSelect l.toArray && Region.lexHead .any l.toArray 0 l.length 0 (Array.replicate l.toArray.size false)) = true)
    (hE : effB .any l.toArray l.length (fun i => cuts.contains i) = true) (hS : S w.drew)
    (h : wpLexE P l.toArray S (fun i => cuts.contains i) (fun a' w' => Q .normal a' w') l 0 a w.drew) : (Code.region id l.toArray true).wpIn F m P Q a w := by
  obtain ⟨hg, hne, hch⟩ := effB_spec (P := P) hE
  simp only [Bool.and_eq_true] at hB
  obtain ⟨hsel, hlex⟩ := hB
  have inv0 : HeadInv .any l.toArray l.length (Array.replicate l.toArray.size false) :=
    ⟨by simp, fun j oj _ hl => (by rw [getD_replicate_false] at hl; cases hl), fun t h1 h2 => by simp at h2; omega⟩
  have einv0 : EffInv l.toArray (fun i => cuts.contains i) 0 (Array.replicate l.toArray.size false) := ⟨fun j hj => by omega, fun j _ hj _ => getD_in (by simpa using hj) (getD_replicate_false _ _)⟩
  have H := wpAnyE_lexA (md := .any) (g := 0) hsel (by simp) hg hne hch l 0 _ a w.drew hS (fun j hj => by simp) (by simp) inv0 einv0 hlex h
  refine wpIn_region_any hm ?_
  have := wpAnyIn_of_eff (F := F) (m := m) (Q' := Q) (g := 0) hF (all_plain hD) hg hne (fun listed a' w' _ hL => by
    exact ⟨by simpa [Region.seqB] using hL.1, hL.2⟩) _ _ _ _ hS H
  simpa using this
theorem wpOpIn_of_efOpPl {i : Nat} {a : Act} {K : Act → World → Prop} {K' : Act → World → Prop} {Q' : Exit → Act → World → Prop} {w : World} (hF : Wide F) (hdf : ∀ o, ops[i]? = some o → noDeferB o = true) (hw : S w)
    (hne : ∀ o, ops[i]? = some o → eff i = false → NoEnter P o) (h : ∀ a w, S w → K a w → K' a w) (hh : Pl.efOp P ops S eff i K a w) : wpOpIn F m P ops Q' i K' a w := by
  unfold Pl.efOp at hh
  unfold wpOpIn
  split
  · rename_i ho; simp only [ho] at hh; exact h _ _ hw hh
  · rename_i o ho
    simp only [ho] at hh
    split
    · rename_i hwn
      simp only [hwn, if_true] at hh
      cases he : eff i with
      | true =>
        simp only [he, if_true] at hh
        exact Oper.wpIn_mono (fun a' w' h' => h _ _ h'.1 h'.2) (wpIn_of_wpn hF (hdf o ho) hh)
      | false =>
        simp only [he, Bool.false_eq_true, if_false] at hh
        exact Oper.wpIn_mono (fun a' w' h' => by obtain ⟨rfl, h'⟩ := h'; exact h _ _ hw h') (wpIn_of_quiet hF (hdf o ho) hw (hne o ho he) hh)
    · rename_i hwn; simp only [hwn] at hh; exact ⟨fun f _ => hF.fn f, h _ _ hw hh⟩
theorem wpAnyIn_of_effPl {Q : Act → World → Prop} {Q' : Exit → Act → World → Prop} (hF : Wide F) (hdf : ∀ (i : Nat) (o : Oper), ops[i]? = some o → noDeferB o = true) (hne : ∀ (i : Nat) (o : Oper), ops[i]? = some o → eff i = false → NoEnter P o) (hQ : ∀ a w, Q a w → Q' .normal a w) :
    ∀ (f : Nat) (listed : Array Bool) (a : Act) (w : World), S w → Pl.wpAnyE P md ops S eff (fun listed a w => Region.ready md ops listed = [] ∧ Q a w) f listed a w → wpAnyIn F m P md ops Q' f listed a w
  | 0, listed, a, w, _, h => ⟨h.1, hQ _ _ h.2⟩
  | f + 1, listed, a, w, hw, h =>
    ⟨fun h0 => absurd h0 h.1, fun i hi => wpOpIn_of_efOpPl hF (hdf i) hw (fun o ho he => hne i o ho he) (fun a' w' hw' h' => wpAnyIn_of_effPl hF hdf hne hQ f _ a' w' hw' h') (h.2 i hi)⟩
theorem wpIn_region_plan {id : Nat} {Q : Exit → Act → World → Prop} {a : Act} {w : World} {l : List Oper} (hF : Wide F) (S : World → Prop) (cuts : List Nat) (p : Pl.Plan) (hm : P.follows .mixedOrders = true) (hD : l.all noDeferB = true)
    (hB : Pl.regionB .any l.toArray (fun i => cuts.contains i) p = true) (hS : S w.drew)
    (h : Pl.wpPlan P l.toArray S (fun i => cuts.contains i) (fun a' w' => Q .normal a' w') p a w.drew) : (Code.region id l.toArray true).wpIn F m P Q a w := by
  simp only [Pl.regionB, Bool.and_eq_true, decide_eq_true_eq] at hB
  obtain ⟨⟨⟨h1, h2⟩, h3⟩, h4⟩ := hB
  have hne : ∀ (i : Nat) (o : Oper), l.toArray[i]? = some o → cuts.contains i = false → NoEnter P o := fun i o ho he => by
    have := List.all_eq_true.1 h3 i (List.mem_range.2 (Array.getElem?_eq_some_iff.1 ho).1)
    simp only [ho, he, Bool.false_or] at this
    exact plain_ok this
  have H := Pl.wpAnyE_plan (md := .any) h1 hne p _ a w.drew h4 hS h
  refine wpIn_region_any hm ?_
  have := wpAnyIn_of_effPl (F := F) (m := m) (Q' := Q) hF (all_plain hD) hne (fun _ _ h => h) _ _ _ _ hS H
  rwa [h2] at this
theorem wpn_of_quiet {o : Oper} {a : Act} {w : World} {K : Act → Prop} (hw : S w) (hp : plainB o = true) (h : o.quiet P a S K) : Oper.wpn P o a w (fun a' w' => w' = w ∧ K a') := by
  obtain ⟨v, h1, h2⟩ := h
  have h3 := h1 w hw
  unfold Oper.quietAt at h3
  have hN := plain_ok (P := P) hp a.eval w
  unfold Oper.wpn Oper.wp
  generalize (execOp a.eval o).run P w = r at *
  cases r with
  | ok n w' =>
    cases n <;> simp only [Oper.quietUpon] at h3 <;> simp only [Oper.upon]
    case value u => obtain ⟨rfl, rfl⟩ := h3; exact ⟨rfl, h2⟩
    case skip => obtain ⟨rfl, rfl⟩ := h3; exact ⟨rfl, h2⟩
    case enter f args => exact absurd (hN _ _ rfl) (by simp [entersB])
  | halt x w' => simp only [Oper.quietUpon] at h3
/-- An operation that is counted with those that turn the world, but only reads. -/
theorem plan_read {K : Act → World → Prop} {l rest : List Oper} {o : Oper} {k : Nat} {a : Act} {w : World} (hw : S w) (he : eff k = true) (hd : l.drop k = o :: rest) (hp : plainB o = true)
    (h : wpQuiet P l.toArray S (fun a' => K a' w) [o] a) : Pl.efOp P l.toArray S eff k K a w := by
  unfold Pl.efOp
  simp only [Pl.drop_get hd, he, if_true]
  simp only [wpQuiet] at h
  split
  · rename_i hwn
    simp only [hwn, if_true] at h
    exact wpn_mono (fun a' w' h' => by obtain ⟨rfl, h'⟩ := h'; exact ⟨hw, h'⟩) (wpn_of_quiet hw hp h)
  · rename_i hwn
    simp only [hwn] at h
    exact h
/-- What is still to come: it is not looked into. -/
structure Held (p : Prop) : Prop where
  out : p
theorem quiet_held {K : Act → Prop} {l : List Oper} {a : Act} (h : wpQuiet P ops S (fun a' => Held (K a')) l a) : wpQuiet P ops S K l a := by
  induction l generalizing a with
  | nil => exact h.out
  | cons o l ih =>
    simp only [wpQuiet] at h ⊢
    split
    · rename_i hw
      simp only [hw, if_true] at h
      exact Oper.quiet_mono (fun a' h' => ih h') h
    · rename_i hw
      simp only [hw] at h
      exact ih h
theorem plan_readH {K : Act → World → Prop} {l rest : List Oper} {o : Oper} {k : Nat} {a : Act} {w : World} (hw : S w) (he : eff k = true) (hd : l.drop k = o :: rest) (hp : plainB o = true)
    (h : wpQuiet P l.toArray S (fun a' => Held (K a' w)) [o] a) : Pl.efOp P l.toArray S eff k K a w := plan_read hw he hd hp (quiet_held h)
theorem plan_takeH {Q : Act → World → Prop} {r : Pl.Plan} {l : List Oper} {k : Nat} {a : Act} {w : World} (m : Nat) (he : (List.range m).all (fun j => !eff (k + j)) = true) (hm : decide (k + m ≤ l.length) = true)
    (h : wpQuiet P l.toArray S (fun a' => Held (Pl.wpPlan P l.toArray S eff Q r a' w)) ((l.drop k).take m) a) : Pl.wpPlan P l.toArray S eff Q (Pl.Plan.seg k m r) a w := Pl.wpPlan_take m he hm (quiet_held h)
theorem plan_skip {Q : Act → World → Prop} {r : Pl.Plan} {l rest : List Oper} {o : Oper} {d : Option Tmp} {k : Nat} {a : Act} {w : World} (hd : l.drop k = o :: rest) (ho : o.dst = d) (hwn : Region.wanted o (yielded l.toArray a.tmps) = false)
    (h : Pl.wpPlan P l.toArray S eff Q r (a.put d undef) w) : Pl.wpPlan P l.toArray S eff Q (.op k r) a w := Pl.efOp_skip hd hwn (by rw [ho]; exact h)
theorem lex_read {Q : Act → World → Prop} {o : Oper} {rest : List Oper} {k : Nat} {a : Act} {w : World} (hw : S w) (he : eff k = true) (hg : o.guard = none) (hp : plainB o = true)
    (h : wpQuiet P ops S (fun a' => G.wpLexE P ops S eff Q rest (k + 1) a' w) [o] a) : G.wpLexE P ops S eff Q (o :: rest) k a w := by
  simp only [G.wpLexE, he, if_true]
  have hwn : Region.wanted o (yielded ops a.tmps) = true := by simp only [Region.wanted, hg]
  simp only [wpQuiet, hwn, if_true] at h
  exact ⟨hwn, wpn_mono (fun a' w' h' => by obtain ⟨rfl, h'⟩ := h'; exact ⟨hw, h'⟩) (wpn_of_quiet hw hp h)⟩
end
end Go.Proofs.Ytefhmemmfajbfaa

namespace Go.Proofs.Ytefhmemmfajbfaa
set_option linter.unusedVariables false
set_option linter.unusedSimpArgs false
open Go.RowKit
attribute [local go_sem] Oper.semAt_some

/-- A round writes only the cells of V. -/
def KC (V : Nat → Prop) (W W' : World) : Prop := W.heap.size ≤ W'.heap.size ∧ ∀ b o v, ¬ V b → W.cell? ⟨b, o, none⟩ = some v → W'.cell? ⟨b, o, none⟩ = some v
theorem KC.refl (V : Nat → Prop) (W : World) : KC V W W := ⟨Nat.le_refl _, fun _ _ _ _ h => h⟩
theorem KC.trans {V : Nat → Prop} {A B C : World} (h : KC V A B) (k : KC V B C) : KC V A C := ⟨Nat.le_trans h.1 k.1, fun b o v hb hc => k.2 b o v hb (h.2 b o v hb hc)⟩
theorem kc_below {V : Nat → Prop} {W W' : World} (h : Below W.heap.size W W') : KC V W W' := ⟨h.size, fun b o v _ hc => by
  have hl : b < W.heap.size := World.block_lt_of_cell? W _ hc
  exact (World.cell?_of_block (h.block b hl)).trans hc⟩
/-- A slice that no round writes. -/
def SlV (W : World) (V : Nat → Prop) (v : Value) (n : Nat) (cs : List Value) : Prop :=
  ∃ A c, v = .slice A n c ∧ n ≤ c ∧ (0 < n → ∃ b o, A = some ⟨b, o, none⟩ ∧ b < W.heap.size ∧ ¬ V b ∧ ∀ j u, cs[j]? = some u → W.cell? ⟨b, o + j, none⟩ = some u)
section
variable {W W' : World} {V : Nat → Prop} {v : Value} {n : Nat} {cs : List Value}
theorem SlV.kc (h : SlV W V v n cs) (hk : KC V W W') : SlV W' V v n cs := by
  obtain ⟨A, c, h1, hc, h2⟩ := h
  refine ⟨A, c, h1, hc, fun hp => ?_⟩
  obtain ⟨b, o, e1, e2, e3, e5⟩ := h2 hp
  exact ⟨b, o, e1, Nat.lt_of_lt_of_le e2 hk.1, e3, fun j u hu => hk.2 _ _ _ e3 (e5 j u hu)⟩
theorem SlV.form (h : SlV W V v n cs) : ∃ A c, v = .slice A n c := by
  obtain ⟨A, c, h1, _⟩ := h
  exact ⟨A, c, h1⟩
end
theorem SlV.to {W : World} {V : Nat → Prop} {v : Value} {n : Nat} {cs : List Value} (h : SlV W V v n cs) : SlAt W v n cs := by
  obtain ⟨A, c, h1, hc, h2⟩ := h
  refine ⟨A, c, h1, hc, fun hp => ?_⟩
  obtain ⟨b, o, e1, e2, _, e5⟩ := h2 hp
  exact ⟨b, o, e1, e2, e5⟩
/-- A part of it. -/
theorem SlV.part {W : World} {V : Nat → Prop} {b o n c : Nat} {l : List (List UInt8)} (h : SlV W V (.slice (some ⟨b, o, none⟩) n c) n (strC l)) (hl : l.length = n) (hp : 0 < n) (i k : Nat) (hik : i + k ≤ n) :
    SlAt W (.slice (some ⟨b, o + i, none⟩) k (c - i)) k (strC ((l.drop i).take k)) := by
  obtain ⟨A, c', h1, hc, h2⟩ := h
  cases h1
  obtain ⟨b', o', e1, e2, _, e5⟩ := h2 hp
  cases e1
  refine ⟨_, _, rfl, by omega, fun hk => ⟨b, o + i, rfl, e2, fun j u hu => ?_⟩⟩
  rw [Nat.add_assoc]
  refine e5 (i + j) u ?_
  rw [strC_map] at hu ⊢
  rw [List.getElem?_map] at hu ⊢
  rw [List.getElem?_take] at hu
  split at hu
  · rw [List.getElem?_drop] at hu
    exact hu
  · cases hu
theorem grown_below {W W' : World} (h : Below W.heap.size W W') : W.grownBy W' none := ⟨h.os, h.tape, h.output, h.size, fun i hi _ => h.block i hi⟩
theorem abides_below {β : Type} {B : Nat} {J : β → World → Prop} (hJ : AbidesFrom B J) {s : β} {W W' : World} (h : J s W) (hb : Below W.heap.size W W') : J s W' := hJ s W W' none h (grown_below hb) (fun r e => by cases e)
theorem _root_.Go.RoundIn.anyDepth' {F : Fence} (hd : F.depth = none) {m m' : Nat} {P : Program} {l : Nat} {f : FuncId} {tmps : Array Value} {assign body : Code} {w : World} {R : Ending → World → Prop} (h : RoundIn F m P l f tmps assign body w R) : RoundIn F m' P l f tmps assign body w R :=
  ⟨h.1, fun c cs _ => h.2 c cs (fun k hk => by rw [hd] at hk; cases hk)⟩
theorem yield_any {F : Fence} (hd : F.depth = none) {m : Nat} (m' : Nat) {P : Program} {l : Nat} {args : Array Value} {W : World} {R : Ending → World → Prop} (h : YieldAt F m P l args W R) : YieldAt F m' P l args W R := by
  obtain ⟨fn, tmps, assign, body, hy, hR⟩ := h
  exact ⟨fn, tmps, assign, body, hy, RoundIn.anyDepth' hd hR⟩
theorem mirT_prefix (L : List Col) (sz : Nat) (got : List (List UInt8)) {k m : Nat} (h : k ≤ m) : mirT L sz got k <+: mirT L sz got m := by
  induction m with
  | zero => obtain rfl : k = 0 := by omega
            exact List.prefix_refl _
  | succ m ih =>
    by_cases e : k = m + 1
    · subst e; exact List.prefix_refl _
    · rw [mirT_step]
      exact (ih (by omega)).trans (List.prefix_append _ _)
abbrev TryX := Int × List UInt8
def tryE (x : TryX) : Array Value := #[.int .i64 x.1, str x.2]
set_option maxRecDepth 20000 in
set_option maxHeartbeats 2000000 in
theorem mirror_in (n : Nat) {L : List Col} {got : List (List UInt8)} {sz wd N : Nat} (l : Nat) {V : Nat → Prop} {J Jx : List TryX → World → Prop} {lv gv : Value} {W : World} (hL : SlV W V lv L.length (colsCells L)) (hG : SlV W V gv got.length (strC got))
    (hlen : L.length = wd * sz) (hgl : got.length = L.length) (h1 : 1 ≤ sz) (hL64 : L.length ≤ 64) (h64 : ∀ s ∈ got, s.length ≤ 64) (hJ : AbidesFrom W.heap.size J)
    (hY : ∀ pre x W1, J pre W1 → pre.length < N → YieldAt Fence.wide (n - 1) Try.prog l (tryE x) W1 fun e W' => (e = .returned (.bool true) ∧ J (pre ++ [x]) W' ∧ KC V W1 W') ∨ (e = .returned (.bool false) ∧ Jx (pre ++ [x]) W'))
    (hN : (mirT L sz got wd).length ≤ N) (h0 : J [] W) :
    CallsIn Fence.wide n Try.prog 30 #[lv, .int .i64 sz, gv, .func (.yield l) #[] #[]] W fun e W' => (∃ v, e = .returned v) ∧ ((∃ xs, xs = mirT L sz got wd ∧ J xs W') ∨ (∃ pre, pre <+: mirT L sz got wd ∧ Jx pre W')) := by
  obtain ⟨Al, cl, rfl⟩ := hL.form
  obtain ⟨Ag, cg, rfl⟩ := hG.form
  rw [hgl] at hG ⊢
  have HL := Lib.hid hL
  have HG := Lib.hid hG
  have HGL := Lib.hid hgl
  have HLEN := Lib.hid hlen
  have H64 := Lib.hid h64
  have HJ := Lib.hid hJ
  have HY := Lib.hid hY
  have HN := Lib.hid hN
  have HJ0 := Lib.hid h0
  clear hL hG hgl hlen h64 hJ hY hN h0
  refine callsIn_of_wp Try.func30 rfl trivial ?_ rfl
  simp only [Try.ntmps30, List.size_toArray, List.length_cons, List.length_nil, Nat.reduceAdd, Nat.reduceSub, Array.replicate_succ, Array.replicate_zero, List.push_toArray, List.append_toArray, List.nil_append, List.cons_append]
  gi_wp2_with fail
  gi_loopw [8, 9] (fun i _ wr => ∃ k i0 : Nat, k ≤ wd ∧ i0 = k * sz ∧ i = .int .i64 i0 ∧ J (mirT L sz got k) wr ∧ KC V W wr ∧ W.heap.size ≤ wr.heap.size) (fun i _ _ => L.length - (RowKit.intOf i).toNat)
  case atStart => exact ⟨0, 0, Nat.zero_le _, by simp, rfl, HJ0.out, KC.refl _ _, Nat.le_refl _⟩
  case round =>
    obtain ⟨k, i0, hk, hi0, rfl, hJk, hkc, hszw⟩ := hrel
    have HJK := Lib.hid hJk
    have HKC := Lib.hid hkc
    have HSZ := Lib.hid hszw
    have HI0 := Lib.hid hi0
    clear hJk hkc hszw
    by_cases hlt : k < wd
    · have hks : i0 + sz ≤ L.length := by
        rw [HLEN.out, hi0, ← Nat.succ_mul]
        exact Nat.mul_le_mul_right sz hlt
      clear hi0
      have HLT := Lib.hid hlt
      have hil : i0 < L.length := by omega
      have hdc : decide (i0 < L.length) = true := decide_eq_true (by omega)
      obtain ⟨x, hx⟩ : ∃ x, L[i0]? = some x := ⟨_, List.getElem?_eq_getElem hil⟩
      have hl2 := HL.out.kc HKC.out
      have hg2 := HG.out.kc HKC.out
      obtain ⟨_, c1, e1, hcl, hcell⟩ := hl2
      cases e1
      obtain ⟨b, o, rfl, hbl, hbV, hcc⟩ := hcell (by omega)
      have hg3 := hg2
      obtain ⟨_, c2, e2, hcg, hcell2⟩ := hg2
      cases e2
      obtain ⟨b2, o2, rfl, hbl2, hbV2, hcc2⟩ := hcell2 (by omega)
      obtain ⟨P, hP⟩ : ∃ P, P = mirPart sz got k := ⟨_, rfl⟩
      have hPl : P.length = sz := by
        rw [hP]
        unfold mirPart
        rw [List.length_take, List.length_drop, ← HI0.out]
        have := HGL.out
        omega
      have hpart := hg3.part HGL.out (by omega) i0 sz hks
      rw [HI0.out] at hpart
      rw [show (got.drop (k * sz)).take sz = P from hP.symm, ← HI0.out] at hpart
      have HCE := Lib.hid (conE_any (w := wr) (ss := P) (by rw [hPl]; exact hpart) (by omega))
      have hstep := mirT_step L sz got k
      have HST := Lib.hid hstep
      have HPP := Lib.hid (And.intro hP hPl)
      have HX := Lib.hid hx
      have HPA := Lib.hid hpart
      have HC0 := Lib.hid (hcc _ _ (colsCells_at hx).1)
      have HBL := Lib.hid (And.intro hbl hbl2)
      clear hlt hx hcell hcell2 hcc hcc2 hg3 hP hPl hpart hstep hbV hbV2 hbl hbl2 HCE
      gi_wp2_with fail
      rw [show i0 + sz - i0 = sz by omega]
      obtain ⟨S0, hS0⟩ : ∃ S0 : World → Prop, S0 = fun W' => Below wr.heap.size wr W' := ⟨_, rfl⟩
      have hSw : S0 wr.drew := by rw [hS0]; exact (Below.refl _ _).drew
      have f0 : ∀ W', S0 W' → W'.cell? ⟨b, o + i0 * 4, none⟩ = some (.int .i64 x.1) := fun W' h => by rw [hS0] at h; exact keep_cell h HC0.out HBL.out.1
      have hce := conE_any (w := wr.drew) (ss := P) (by rw [HPP.out.2]; exact HPA.out.below (Below.refl _ _).drew) (by have := HPP.out.2; omega)
      have HS0 := Lib.hid hS0
      cases hE : hasE P with
      | true =>
        rw [hE] at hce
        have HCE := Lib.hid hce
        have HT : Hid (mirT L sz got (k + 1) = mirT L sz got k) := Lib.hid (by rw [HST.out]; unfold mirOne; rw [← HPP.out.1, hE]; simp)
        clear hce hE hS0
        refine wpIn_region_plan wide_wide S0 [1, 3, 11, 12] (Pl.Plan.seg 0 1 (.op 1 (Pl.Plan.seg 2 1 (.op 3 (Pl.Plan.seg 4 7 (.op 11 (.op 12 (Pl.Plan.seg 13 2 .done)))))))) (by kernel_rfl) (by kernel_rfl) (by kernel_rfl) hSw ?_
        refine Pl.wpPlan_take (k := 0) 1 (by kernel_rfl) (by kernel_rfl) ?_
        simp only [List.take_succ_cons, List.take_zero, List.drop_succ_cons, List.drop_zero]
        repeat (first
          | go_big_quiet_skip
          | (go_big_quiet_want
             go_big_quiet_op
             first
               | go_big_quiet_on
               | (apply Exists.intro
                  refine ⟨fun W hW => ?_, ?_⟩
                  · first
                      | exact rfl
                      | exact ⟨rfl, rfl⟩
                      | (have e0 := f0 W hW; simp only [e0, Result.andThen_ok]; done)
                      | (have e0 := f0 W hW; simp only [e0, Result.andThen_ok]; first | exact ⟨trivial, rfl⟩ | exact rfl | exact ⟨rfl, rfl⟩)
                      | (skip)
                  go_big_quiet_on)))
        refine wpQuiet_nil ?_
        refine Pl.efOp_any rfl rfl ?_
        go_wp2_with fail
        refine HCE.out.mono ?_
        rintro e w4 ⟨rfl, hb4⟩
        have hb4' : Below wr.heap.size wr w4 := ⟨hb4.os, hb4.tape, hb4.output, hb4.size, fun i hi => hb4.block i hi⟩
        have hS4 : S0 w4 := by rw [HS0.out]; exact hb4'
        have HB4 := Lib.hid hb4'
        clear hb4 hb4'
        go_wp2_with fail
        refine ⟨rfl, hS4, ?_⟩
        refine Pl.wpPlan_take (k := 2) 1 (by kernel_rfl) (by kernel_rfl) ?_
        simp only [List.take_succ_cons, List.take_zero, List.drop_succ_cons, List.drop_zero]
        repeat (first
          | go_big_quiet_skip
          | (go_big_quiet_want
             go_big_quiet_op
             first
               | go_big_quiet_on
               | (apply Exists.intro
                  refine ⟨fun W hW => ?_, ?_⟩
                  · first
                      | exact rfl
                      | exact ⟨rfl, rfl⟩
                      | (have e0 := f0 W hW; simp only [e0, Result.andThen_ok]; done)
                      | (have e0 := f0 W hW; simp only [e0, Result.andThen_ok]; first | exact ⟨trivial, rfl⟩ | exact rfl | exact ⟨rfl, rfl⟩)
                      | (skip)
                  go_big_quiet_on)))
        refine wpQuiet_nil ?_
        refine plan_readH hS4 rfl rfl (by kernel_rfl) ?_
        repeat (first
          | go_big_quiet_skip
          | (go_big_quiet_want
             go_big_quiet_op
             first
               | go_big_quiet_on
               | (apply Exists.intro
                  refine ⟨fun W hW => ?_, ?_⟩
                  · first
                      | exact rfl
                      | exact ⟨rfl, rfl⟩
                      | (have e0 := f0 W hW; simp only [e0, Result.andThen_ok]; done)
                      | (have e0 := f0 W hW; simp only [e0, Result.andThen_ok]; first | exact ⟨trivial, rfl⟩ | exact rfl | exact ⟨rfl, rfl⟩)
                      | (skip)
                  go_big_quiet_on)))
        refine wpQuiet_nil ?_
        refine Held.mk ?_
        with_reducible refine plan_takeH (k := 4) 7 ?xx1 ?yy1 ?zz1
        case xx1 => kernel_rfl
        case yy1 => kernel_rfl
        simp only [List.take_succ_cons, List.take_zero, List.drop_succ_cons, List.drop_zero]
        repeat (first
          | go_big_quiet_skip
          | (go_big_quiet_want
             go_big_quiet_op
             first
               | go_big_quiet_on
               | (apply Exists.intro
                  refine ⟨fun W hW => ?_, ?_⟩
                  · first
                      | exact rfl
                      | exact ⟨rfl, rfl⟩
                      | (have e0 := f0 W hW; simp only [e0, Result.andThen_ok]; done)
                      | (have e0 := f0 W hW; simp only [e0, Result.andThen_ok]; first | exact ⟨trivial, rfl⟩ | exact rfl | exact ⟨rfl, rfl⟩)
                      | (skip)
                  go_big_quiet_on)))
        refine wpQuiet_nil ?_
        refine Held.mk ?_
        with_reducible refine plan_skip (d := some 34) (o := ?oo2) (rest := ?rr2) ?xx2 ?vv2 ?yy2 ?zz2
        case xx2 => rfl
        case vv2 => rfl
        case yy2 => rfl
        with_reducible refine plan_skip (d := some 35) (o := ?oo3) (rest := ?rr3) ?xx3 ?vv3 ?yy3 ?zz3
        case xx3 => rfl
        case vv3 => rfl
        case yy3 => rfl
        with_reducible refine plan_takeH (k := 13) 2 ?xx4 ?yy4 ?zz4
        case xx4 => kernel_rfl
        case yy4 => kernel_rfl
        simp only [Act.put, List.setIfInBounds_toArray, List.set_cons_succ, List.set_cons_zero, List.take_succ_cons, List.take_zero, List.drop_succ_cons, List.drop_zero]
        repeat (first
          | go_big_quiet_skip
          | (go_big_quiet_want
             go_big_quiet_op
             first
               | go_big_quiet_on
               | (apply Exists.intro
                  refine ⟨fun W hW => ?_, ?_⟩
                  · first
                      | exact rfl
                      | exact ⟨rfl, rfl⟩
                      | (have e0 := f0 W hW; simp only [e0, Result.andThen_ok]; done)
                      | (have e0 := f0 W hW; simp only [e0, Result.andThen_ok]; first | exact ⟨trivial, rfl⟩ | exact rfl | exact ⟨rfl, rfl⟩)
                      | (skip)
                  go_big_quiet_on)))
        refine wpQuiet_nil ?_
        refine Held.mk ?_
        simp only [Pl.wpPlan]
        have HKF : Hid (J (mirT L sz got (k + 1)) w4 ∧ KC V W w4 ∧ W.heap.size ≤ w4.heap.size) := Lib.hid ⟨by rw [HT.out]; exact abides_below HJ.out HJK.out HB4.out, HKC.out.trans (kc_below HB4.out), Nat.le_trans HSZ.out HB4.out.size⟩
        clear f0 hSw hS4
        gi_wp2_with fail
        go_roundw
        case rel => exact ⟨k + 1, i0 + sz, HLT.out, by rw [HI0.out, Nat.succ_mul], by go_num, HKF.out.1, HKF.out.2.1, HKF.out.2.2⟩
        case measure => simp [RowKit.intOf]; omega
      | false =>
        rw [hE] at hce
        have HCE := Lib.hid hce
        have HT : Hid (mirT L sz got (k + 1) = mirT L sz got k ++ [(x.1, P.flatten)]) := Lib.hid (by rw [HST.out]; unfold mirOne; rw [← HPP.out.1, hE, ← HI0.out, getD_at HX.out]; simp)
        have HFL : Hid (P.flatten.length ≤ 4096) := Lib.hid (by
          have h1 := flat_le (l := P) (fun s hs => by
            rw [HPP.out.1] at hs
            exact H64.out s (List.mem_of_mem_drop (List.mem_of_mem_take hs)))
          have := HPP.out.2
          omega)
        clear hce hE hS0
        refine wpIn_region_effG wide_wide S0 [1, 3, 11] 12 (by kernel_rfl) (by kernel_rfl) (by kernel_rfl) (by kernel_rfl) hSw ?_
        simp only [List.take_succ_cons, List.take_zero, List.drop_succ_cons, List.drop_zero]
        refine G.wpLexE_take 1 (by kernel_rfl) (by kernel_rfl) ?_
        simp only [List.take_succ_cons, List.take_zero, List.drop_succ_cons, List.drop_zero]
        repeat (first
          | go_big_quiet_skip
          | (go_big_quiet_want
             go_big_quiet_op
             first
               | go_big_quiet_on
               | (apply Exists.intro
                  refine ⟨fun W hW => ?_, ?_⟩
                  · first
                      | exact rfl
                      | exact ⟨rfl, rfl⟩
                      | (have e0 := f0 W hW; simp only [e0, Result.andThen_ok]; done)
                      | (have e0 := f0 W hW; simp only [e0, Result.andThen_ok]; first | exact ⟨trivial, rfl⟩ | exact rfl | exact ⟨rfl, rfl⟩)
                      | (skip)
                  go_big_quiet_on)))
        refine wpQuiet_nil ?_
        show G.wpLexE _ _ _ _ _ _ _ _ _
        refine G.wpLexE_eff (by kernel_rfl) rfl ?_
        go_wp2_with fail
        refine HCE.out.mono ?_
        rintro e w4 ⟨rfl, hb4⟩
        have hb4' : Below wr.heap.size wr w4 := ⟨hb4.os, hb4.tape, hb4.output, hb4.size, fun i hi => hb4.block i hi⟩
        have hS4 : S0 w4 := by rw [HS0.out]; exact hb4'
        have HB4 := Lib.hid hb4'
        have hjo := join_any (w := w4) (ss := P) (sv := .slice (some ⟨b2, o2 + i0, none⟩) sz (cg - i0)) (by rw [HPP.out.2]; exact HPA.out.below hb4') (by have := HPP.out.2; omega) (by have := HFL.out; omega)
        have HJO := Lib.hid hjo
        clear hb4 hb4' hjo
        go_wp2_with fail
        refine ⟨rfl, hS4, ?_⟩
        refine G.wpLexE_take 1 (by kernel_rfl) (by kernel_rfl) ?_
        simp only [List.take_succ_cons, List.take_zero, List.drop_succ_cons, List.drop_zero]
        repeat (first
          | go_big_quiet_skip
          | (go_big_quiet_want
             go_big_quiet_op
             first
               | go_big_quiet_on
               | (apply Exists.intro
                  refine ⟨fun W hW => ?_, ?_⟩
                  · first
                      | exact rfl
                      | exact ⟨rfl, rfl⟩
                      | (have e0 := f0 W hW; simp only [e0, Result.andThen_ok]; done)
                      | (have e0 := f0 W hW; simp only [e0, Result.andThen_ok]; first | exact ⟨trivial, rfl⟩ | exact rfl | exact ⟨rfl, rfl⟩)
                      | (skip)
                  go_big_quiet_on)))
        refine wpQuiet_nil ?_
        show G.wpLexE _ _ _ _ _ _ _ _ _
        refine lex_read hS4 (by kernel_rfl) rfl (by kernel_rfl) ?_
        repeat (first
          | go_big_quiet_skip
          | (go_big_quiet_want
             go_big_quiet_op
             first
               | go_big_quiet_on
               | (apply Exists.intro
                  refine ⟨fun W hW => ?_, ?_⟩
                  · first
                      | exact rfl
                      | exact ⟨rfl, rfl⟩
                      | (have e0 := f0 W hW; simp only [e0, Result.andThen_ok]; done)
                      | (have e0 := f0 W hW; simp only [e0, Result.andThen_ok]; first | exact ⟨trivial, rfl⟩ | exact rfl | exact ⟨rfl, rfl⟩)
                      | (skip)
                  go_big_quiet_on)))
        refine wpQuiet_nil ?_
        refine G.wpLexE_take 7 (by kernel_rfl) (by kernel_rfl) ?_
        simp only [List.take_succ_cons, List.take_zero, List.drop_succ_cons, List.drop_zero]
        repeat (first
          | go_big_quiet_skip
          | (go_big_quiet_want
             go_big_quiet_op
             first
               | go_big_quiet_on
               | (apply Exists.intro
                  refine ⟨fun W hW => ?_, ?_⟩
                  · first
                      | exact rfl
                      | exact ⟨rfl, rfl⟩
                      | (have e0 := f0 W hW; simp only [e0, Result.andThen_ok]; done)
                      | (have e0 := f0 W hW; simp only [e0, Result.andThen_ok]; first | exact ⟨trivial, rfl⟩ | exact rfl | exact ⟨rfl, rfl⟩)
                      | (skip)
                  go_big_quiet_on)))
        refine wpQuiet_nil ?_
        show G.wpLexE _ _ _ _ _ _ _ _ _
        refine G.wpLexE_effg (by kernel_rfl) (by rfl) ?_
        go_wp2_with fail
        refine HJO.out.mono ?_
        rintro e w5 ⟨rfl, hb5⟩
        have hS5 : S0 w5 := by rw [HS0.out]; exact HB4.out.trans (hb5.mono HB4.out.size)
        have HB5 := Lib.hid (HB4.out.trans (hb5.mono HB4.out.size))
        clear hb5 f0
        go_wp2_with fail
        refine ⟨rfl, hS5, ?_⟩
        have hJ5 : J (mirT L sz got k) w5 := abides_below HJ.out HJK.out HB5.out
        obtain ⟨fn, tmps, assign, body, hy, hR⟩ := HY.out (mirT L sz got k) (x.1, P.flatten) w5 hJ5 (by
          have h2 := (mirT_prefix L sz got HLT.out).length_le
          rw [HT.out, List.length_append] at h2
          have := HN.out
          simp at h2
          omega)
        dsimp only [tryE] at hy
        have HR := Lib.hid hR
        clear hJ5 hR hS5 hS4 hSw
        show wpListIn _ _ _ _ _ _ _ _
        gi_wp2_with fail
        refine ⟨fun h => (by cases h), HR.out.mono ?_⟩
        rintro e w6 (⟨rfl, hJ6, hk6⟩ | ⟨rfl, hJx6⟩)
        · have HKF : Hid (J (mirT L sz got (k + 1)) w6 ∧ KC V W w6 ∧ W.heap.size ≤ w6.heap.size) := Lib.hid ⟨by rw [HT.out]; exact hJ6, (HKC.out.trans (kc_below HB5.out)).trans hk6, Nat.le_trans (Nat.le_trans HSZ.out HB5.out.size) hk6.1⟩
          clear hJ6 hk6 hy
          gi_wp2_with fail
          go_roundw
          case rel => exact ⟨k + 1, i0 + sz, HLT.out, by rw [HI0.out, Nat.succ_mul], by go_num, HKF.out.1, HKF.out.2.1, HKF.out.2.2⟩
          case measure => simp [RowKit.intOf]; omega
        · have HJX : Hid (Jx (mirT L sz got (k + 1)) w6) := Lib.hid (by rw [HT.out]; exact hJx6)
          have HPR := Lib.hid (mirT_prefix L sz got HLT.out)
          clear hJx6 hy
          gi_wp2_with fail
          refine bodyPost_ret (results_none rfl _ _ _) rfl ?_
          exact ⟨⟨_, rfl⟩, .inr ⟨_, HPR.out, HJX.out⟩⟩
    · obtain rfl : k = wd := by omega
      have hdc : decide (i0 < L.length) = false := decide_eq_false (by have := HLEN.out; have := HI0.out; omega)
      clear hi0
      gi_wp2_with fail
      go_end0
      exact ⟨⟨_, rfl⟩, .inl ⟨_, rfl, HJK.out⟩⟩
end Go.Proofs.Ytefhmemmfajbfaa

namespace Go.Proofs.Ytefhmemmfajbfaa
set_option linter.unusedVariables false
set_option linter.unusedSimpArgs false
open Go.RowKit

theorem Try.infoInt : (Try.prog.info? 3).map (fun i => (i.zero, i.size, i.bytes)) = some (some (.int .i64 0), 1, 8) := by kernel_rfl
theorem new1 (w : World) (u : Value) (t : TypeId) : ∀ j v, [u][j]? = some v → (w.alloc (.cells #[u] t)).cell? ((⟨w.heap.size, 0, none⟩ : Addr).add j) = some v := by
  intro j v hj
  match j, hj with
  | 0, hj => simp at hj; subst hj; simp [Addr.add]
theorem new1' {w : World} {k : Nat} {u : Value} {t : TypeId} (hk : k = w.heap.size) : ∀ j v, [u][j]? = some v → (w.alloc (.cells #[u] t)).cell? ((⟨k, 0, none⟩ : Addr).add j) = some v := by subst hk; exact new1 w u t
def intCells (l : List Int) : List Value := l.map (Value.int .i64)
theorem intCells_snoc (l : List Int) (d : Int) : intCells (l ++ [d]) = intCells l ++ [.int .i64 d] := by simp [intCells]
theorem intCells_get {l : List Int} {k : Nat} {d : Int} (h : l[k]? = some d) : (intCells l)[k]? = some (.int .i64 d) := by simp [intCells, h]
end Go.Proofs.Ytefhmemmfajbfaa
